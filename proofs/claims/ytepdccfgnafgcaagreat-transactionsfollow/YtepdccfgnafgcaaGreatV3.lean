/-
  Contracts of functions and plain laws. No condition.
-/
import Derived.Test.YtepdccfgnafgcaaGreatV2
import Derived.Lib.Builder
import Derived.Lib.Overlaps
import Derived.RangeFuncWrites
import Derived.RangeFuncLeaves
import Derived.RangeFuncCalls
import Derived.OwnWalkIn
import Derived.OrdersIn
import Derived.RangeFuncNested
import Derived.MapKept
set_option linter.unusedSimpArgs false
set_option linter.unusedVariables false
set_option linter.defProp false
set_option maxRecDepth 100000
set_option maxHeartbeats 8000000
set_option autoImplicit true
set_option relaxedAutoImplicit true
open Array renaming getElem?_eq_some_iff->Jh,getElem?_eq_getElem->Ju,replicate->JP,getD_eq_getD_getElem?->JQ,eq_empty_of_size_eq_zero->Kc,getElem?_toList->Kq,getElem?_modify->KY
open Bool renaming and_eq_true->Jq,and_eq_false_imp->JX,not_eq_eq_eq_not->JY,or_eq_false_iff->J1,or_eq_true->J2,not_eq_false'->J4,not_eq_true'->J9,not_false->Kd,false_eq_true->Ke,not_true->Kj
open Int renaming reduceToNat->JB,reduceNeg->JJ,reduceAdd->JK,reduceSub->JL,reduceMul->JM,reduceBEq->JN,reduceBNe->JO,reduceLT->JU,reduceLE->JV,reduceEq->JW,not_lt->KH,not_le->KJ
open List renaming getElem?_eq_getElem->Ja,getElem?_map->Jb,length_map->Jc,length_append->Jd,length_cons->Je,getElem?_eq_some_iff->Jf,length_nil->Jg,length_replicate->Ji,getElem?_append_left->Jj,length_drop->Jl,getD_eq_getElem?_getD->Jm,length_take->Jn,getElem?_append_right->Jr,map_cons->Js,getElem?_eq_none->Jt,length_set->Jw,range->JC,getElem?_set->JD,drop_of_length_le->JR,mem_range->JS,all_eq_true->JZ,range'->J0,take_of_length_le->J3,findIdx?_cons->J5,replicate->J6,range_eq_range'->J8,mem_map->Ka,eq_nil_iff_forall_not_mem->Kb,idxOf_lt_length_of_mem->Kf,append_nil->Kg,drop_length_add_append->Kh,ext_getElem?->Ki,getElem?_set_ne->Kk,drop_zero->Kl,take_left'->Km,getElem?_set_self->Ko,getElem?_toArray->Ks,range'_append_1->Kw,map_append->Kx,length->Ky,drop_left'->KA,replicate_succ->KB,mem_append->KC,getElem?_range->KD,getElem?_cons_succ->KN,mem_cons->KO,getElem?_replicate->KP,cons_append->KQ,map_nil->KR,nil_append->KS,idxOf_cons->KU,length_singleton->KV,countP_le_length->KX,getElem?_mapIdx->KZ,mem_of_getElem?->K0,take_succ_cons->K2,drop_succ_cons->K3,getElem?_drop->K6,flatten_cons->K7,any_eq_true->K9,mem_toArray->Ua,range'_zero->Ub,range'_succ->Uc,mem_filter->Ud,drop_drop->Ue,map_set->Ug,map_map->Ui,set->Ul
open Nat renaming lt_of_lt_of_le->Jk,reduceAdd->Jo,le_refl->Jp,reduceLeDiff->Jy,reduceEqDiff->Jz,zero_add->JA,reduceMul->JE,reduceSub->JF,reduceBEq->JG,reduceDiv->JH,reducePow->JI,reduceLT->JT,zero_le->J7,le_trans->Kp,le_of_not_lt->Kt,add_mul->Kz,not_lt_zero->KE,strongRecOn->KF,lt_trichotomy->KG,not_lt->KK,not_le->KL,one_mul->KM,min_eq_left->KT,lt_trans->KW,one_pos->K1,add_right_comm->K5,add_comm->K8,zero_mul->Uf,lt_or_ge->Uh,le_of_lt->Uj,mul_one->Uk
open Option renaming map_some->Jv,getD_some->Ku,bind_some->Kv,some->K4
namespace Go.V
def QB4(o:Option Oper)(l:List Oper):List Oper:=match o with | some o=>o::l | none=>l
def QDJ(P:Program)(all:List Oper)(l:List Oper)(K:St->Prop)(S:St):Prop:=Qar P all l K S
def QGd(P:Program)(all:List Oper)(F H:List Nat)(r:List Seg)(K:St->Prop)(S S1:St):Prop:=Qio all S S1 (pick all F)/\QDJ P all (pick all H) (vsp P all r K) S1
def QDM(A B:Prop):Prop:=A/\B
def Qzb(x:Option (DV×Qa)):Option (DV×Blk):=match x with
 | some (.ptr 0 0,[B])=>some (.ptr 0 0,B)
 | some (.own 0 sz 0 n,[B])=>some (.own 0 sz 0 n,B)
 | _=>none
def Qn5(x:Option (DV×Blk))(l:List DV):Prop:=match x with
 | some (_,B)=>B.live=true/\0<B.cells.length/\DV.nums.go (fun _=>false) B.cells=true/\DV.nums.go (fun _=>false) l=true
 | none=>False
theorem Qx8:pick all []=[]:=rfl
def QtT:pick all (i::r)=QB4 all[i]? (pick all r):=by
 cases h:all[i]?<;>simp[pick,QB4,h]
theorem Qqr:QB4 (some o) l=o::l:=rfl
def QAw:vsp P all [] K S=K S:=by rw[vsp]
def Qwn:vsp P all (⟨R,C,c,F,H⟩::r) K S=QDM (QcR P S (pick all R)) (QDJ P all (pick all (C++[c])) (QGd P all F H r K S) S):=by
 rw[vsp]; rfl
def Qrz:QDM True B=B:=by simp[QDM]
theorem QAx:QDJ P all l K S=Qar P all l K S:=rfl
theorem QAy:QGd P all F H r K S S1=QDM (Qio all S S1 (pick all F)) (QDJ P all (pick all H) (vsp P all r K) S1):=rfl
@[congr] def QDL(h:A=A'):QDM A B=QDM A' B:=by rw[h]
@[congr] def QDI(P:Program)(all:List Oper)(K:St->Prop)(S:St)(h:l=l'):QDJ P all l K S=QDJ P all l' K S:=by rw[h]
@[congr] theorem QD4(P:Program)(all:List Oper)(segs:List Seg)(K:St->Prop)(S:St):vsp P all segs K S=vsp P all segs K S:=rfl
@[congr] theorem QDK(P:Program)(all:List Oper)(F H:List Nat)(r:List Seg)(K:St->Prop)(S S1:St):QGd P all F H r K S S1=QGd P all F H r K S S1:=rfl
theorem Qvu:QcR P S []=True:=rfl
theorem QqW:QcR P S (o::r)=((S.fits o.dst=true/\QfW P (evG true S) o.op)/\QcR P S r):=rfl
def Qvw:QfW P ev o=Qn5 (Qzb (vop P ev [] o)) (o.operands.toList.map ev):=by
 unfold QfW Qn5 Qwf Qzb; rfl
theorem Qvx:Qzb (some (.ptr 0 0,[B]))=some (.ptr 0 0,B):=rfl
theorem Qvy:Qzb (some (.own 0 sz 0 n,[B]))=some (.own 0 sz 0 n,B):=rfl
theorem Qmw:Qn5 (some (d,⟨T,b,cs⟩)) l=(b=true/\0<cs.length/\DV.nums.go (fun _=>false) cs=true/\DV.nums.go (fun _=>false) l=true):=rfl
theorem Qv3:Qio all S S1 []=True:=rfl
theorem Qrf:Qio all S S1 (o::r)=(QpA S S1 o (QK all S1 o)/\Qio all S S1 r):=rfl
theorem Qoe:QpA S S1 o (some G)=QgW S.hp S1.hp (Qci (evG G S1) o.op).1:=rfl
theorem Qqc:QgW hp hp1 []=True:=rfl
theorem Qnl:QgW hp hp1 (k::r)=(hp1[k]?=hp[k]?/\QgW hp hp1 r):=rfl
end Go.V
namespace Go.V
structure Enc(α:Type) where
 sz:Nat
 enc:α->List PV
 hsz:0<sz
 hlen:∀ a,(enc a).length=sz
def cells{α:Type}(e:Enc α)(l:List α):List DV:=(l.map fun a=>(e.enc a).map DV.pv).flatten
def fz{α:Type}(e:Enc α)(l:List α):List (List PV):=l.map e.enc
def Qx:Enc Int:=⟨1,fun n=>[.lit (.int .i64 n)],K1,fun _=>rfl⟩
def QIv:Enc Bool:=⟨1,fun b=>[.lit (.bool b)],K1,fun _=>rfl⟩
def Qfv:Enc UInt8:=⟨1,fun b=>[.lit (.int .u8 b.toNat)],K1,fun _=>rfl⟩
section
variable {α:Type} (e:Enc α)
theorem Qmh(l:List α):(fz e l).length=l.length:=by simp[fz]
theorem Qht(l:List α)(i:Nat)(h:i<l.length):(fz e l)[i]?=some (e.enc l[i]):=by
 rw[fz,Jb,Ja h]; rfl
theorem QuN(l:List α)(n:Nat):(fz e l).take n=fz e (l.take n):=by simp[fz,List.map_take]
theorem QCP(l:List α)(n:Nat):(fz e l).drop n=fz e (l.drop n):=by simp[fz,List.map_drop]
theorem QnV(l:List α):((fz e l).flatten).map DV.pv=cells e l:=by
 induction l with
 | nil=>rfl
 | cons a r ih=>simp only[fz,cells,Js,K7,Kx] at ih |-; rw[ih]
theorem Qmi(l:List α)(h:0<l.length):(fz e l)[0]?.map Ky=some e.sz:=by
 rw[Qht e l 0 h]; simp[e.hlen]
theorem QX(a:α)(l:List α):cells e (a::l)=(e.enc a).map DV.pv++cells e l:=rfl
theorem QD(a b:List α):cells e (a++b)=cells e a++cells e b:=by simp[cells]
theorem Qo(l:List α):(cells e l).length=l.length*e.sz:=by
 induction l with
 | nil=>simp[cells]
 | cons a r ih=>rw[QX,Jd,ih,Jc,e.hlen,Je,Kz]; omega
theorem QuH(ha:DV.nums.go p a=true)(hb:DV.nums.go p b=true):DV.nums.go p (a++b)=true:=by
 induction a with
 | nil=>exact hb
 | cons x r ih=>simp only[KQ,DV.nums.go,Jq] at ha |-; exact⟨ha.1,ih ha.2⟩
theorem Qgp(p:Nat->Bool):∀ (l:List PV),DV.nums.go p (l.map DV.pv)=true
 | []=>rfl
 | _::r=>Qgp p r
theorem QoS(n:Nat):∀ (l:List PV),DV.refs.go n (l.map DV.pv)=true
 | []=>rfl
 | _::r=>QoS n r
theorem Qe6(l:List α):cells e l=((l.map e.enc).flatten).map DV.pv:=by
 induction l with
 | nil=>rfl
 | cons a r ih=>rw[QX,Js,K7,Kx,ih]
theorem Qg(p:Nat->Bool)(l:List α):DV.nums.go p (cells e l)=true:=by rw[Qe6]; exact Qgp p _
theorem QfA(n:Nat)(l:List α):DV.refs.go n (cells e l)=true:=by rw[Qe6]; exact QoS n _
theorem QtI (n:Nat) (hp:Qa):∀ (l:List PV),Qi ((l.map DV.pv).map (QcU n hp)) = some (l.map DV.pv)
 | []=>rfl
 | a :: r=>by
   have:=QtI n hp r
   simp only[Js,Qi,QcU] at this |-
   rw[this]; rfl
theorem QoT (n:Nat) (hp:Qa) (f:Nat):∀ (l:List PV),Qi ((l.map DV.pv).map (Qih n hp f)) = some l
 | []=>rfl
 | a :: r=>by
   have:=QoT n hp f r
   have h1:Qih n hp f (.pv a)=some a:=by cases f<;>rfl
   simp only[Js,Qi,h1] at this |-
   rw[this]; rfl
theorem QvJ(n:Nat)(hp:Qa)(l:List α):Qi ((cells e l).map (QcU n hp))=some (cells e l):=by rw[Qe6]; exact QtI n hp _
theorem Qpv (l:List α) (i:Nat) (h:i < l.length):((cells e l).drop (i * e.sz)).take e.sz = (e.enc l[i]).map DV.pv:=by
 induction l generalizing i with
 | nil=>simp at h
 | cons a r ih =>
   have ha:((e.enc a).map DV.pv).length=e.sz:=by rw[Jc,e.hlen]
   cases i with
   | zero=>rw[Uf,Kl,QX,Km ha]; rfl
   | succ i =>
     have hi:i<r.length:=by simpa using h
     rw[QX,Kz,KM,K8,<- Ue,KA ha,ih i hi]; rfl
theorem Qfy (l:List α) (n:Nat):(cells e l).take (n * e.sz) = cells e (l.take n):=by
 induction l generalizing n with
 | nil=>simp[cells]
 | cons a r ih =>
   have ha:((e.enc a).map DV.pv).length=e.sz:=by rw[Jc,e.hlen]
   cases n with
   | zero=>simp[cells]
   | succ n=>rw[QX,K2,QX,Kz,KM,K8,<- ha,List.take_append,Nat.add_sub_cancel_left,ha,ih,J3 (by omega)]
theorem Qi6 (l:List α) (n:Nat):(cells e l).drop (n * e.sz) = cells e (l.drop n):=by
 induction l generalizing n with
 | nil=>simp[cells]
 | cons a r ih =>
   have ha:((e.enc a).map DV.pv).length=e.sz:=by rw[Jc,e.hlen]
   cases n with
   | zero=>simp
   | succ n=>rw[QX,K3,Kz,KM,K8,<- Ue,KA ha,ih]
theorem Qfz (n:Nat) (hp:Qa) (f:Nat):∀ (l:List α),Qi ((rows e.sz l.length (cells e l)).map fun r=>Qi (r.map (Qih n hp f))) = some (fz e l)
 | []=>rfl
 | a :: l=>by
   have ha:((e.enc a).map DV.pv).length=e.sz:=by rw[Jc,e.hlen]
   have hr:rows e.sz (a::l).length (cells e (a::l))=(e.enc a).map DV.pv::rows e.sz l.length (cells e l):=by
    rw[Je,rows,QX,Km ha,KA ha]
   rw[hr,Js,QoT]
   show(Qi _).map _=_
   rw[Qfz n hp f l]; rfl
theorem Qyb{n k:Nat}{hp:Qa}{T:TypeId}(hk:¬ k<n)(l:List α)(hb:hp[k]?=some ⟨T,true,cells e l⟩)(f:Nat):Qih n hp (f+1) (.own k e.sz 0 l.length)=some (.sl (fz e l)):=by
 have hbc:Qh hp k=some (cells e l):=by simp[Qh,hb]
 rw[Qih,if_neg hk,hbc]
 show(if 0+l.length*e.sz<=(cells e l).length/\0<e.sz then _ else _)=_
 rw[if_pos ⟨by rw[Qo]; omega,e.hsz⟩,Kl,Qfz]; rfl
theorem QB6{n k:Nat}{hp:Qa}{T:TypeId}(hk:¬ k<n)(l:List α)(hb:hp[k]?=some ⟨T,true,cells e l⟩):QcU n hp (.own k e.sz 0 l.length)=some (.pv (.sl (fz e l))):=by
 rw[QcU,if_neg hk,Qyb e hk l hb]; rfl
end
def Qpw(l:List Int):cells Qx l=l.map (DV.int .i64):=by
 induction l with
 | nil=>rfl
 | cons a r ih=>rw[QX,ih]; rfl
def QAk(l:List UInt8):cells Qfv l=l.map fun b=>.pv (.lit (.int .u8 b.toNat)):=by
 induction l with
 | nil=>rfl
 | cons a r ih=>rw[QX,ih]; rfl
def QdW(l:List Int):(cells Qx l).length=l.length:=by rw[Qpw,Jc]
def QdU(l:List UInt8):(cells Qfv l).length=l.length:=by rw[QAk,Jc]
def QdX(l:List Int)(i:Nat)(h:i<l.length):(cells Qx l)[i]?=some (.int .i64 (l.getD i 0)):=by
 rw[Qpw,Jb,Jm,Ja h]; rfl
def QdV(l:List Int)(i:Nat)(n:Int):(cells Qx l).set i (.pv (.lit (.int .i64 n)))=cells Qx (l.set i n):=by rw[Qpw,Qpw,Ug]
def QV(l:List Int)(i:Nat)(h:i<l.length):(fz Qx l)[i]?=some [.lit (.int .i64 (l.getD i 0))]:=by
 rw[Qht Qx l i h,Jm,Ja h]; rfl
def QuO(l:List UInt8)(i:Nat)(h:i<l.length):(fz Qfv l)[i]?=some [.lit (.int .u8 (l.getD i 0).toNat)]:=by
 rw[Qht Qfv l i h,Jm,Ja h]; rfl
def mkI(n:Nat):mk [.pv (.lit (.int .i64 0))] n=cells Qx (J6 n 0):=by
 induction n with
 | zero=>rfl
 | succ n ih=>rw[KB,QX,<- ih]; rfl
def mkB(n:Nat):mk [.pv (.lit (.bool false))] n=cells QIv (J6 n false):=by
 induction n with
 | zero=>rfl
 | succ n ih=>rw[KB,QX,<- ih]; rfl
def mkU(n:Nat):mk [.pv (.lit (.int .u8 0))] n=cells Qfv (J6 n 0):=by
 induction n with
 | zero=>rfl
 | succ n ih=>rw[KB,QX,<- ih]; rfl
def Qpi(n:Nat)(hp:Qa)(off sz len:Nat)(x:Option (List DV)):Option PV:=match x with
 | some cs=>if off+len*sz<=cs.length/\0<sz then (Qi ((rows sz len (cs.drop off)).map fun r=>Qi (r.map (Qih n hp 3)))).map .sl else none
 | none=>none
theorem QyQ:Qih n hp 4 (.own k sz off len)=if k<n then none else Qpi n hp off sz len (Qh hp k):=rfl
def QCV:Qih n hp f (.pv p)=some p:=by cases f<;>rfl
def Qac(e:Enc α)(h:l.length=len):Qpi n hp 0 e.sz len (some (cells e l))=some (.sl (fz e l)):=by
 subst h
 simp only[Qpi]
 rw[if_pos ⟨by rw[Qo]; omega,e.hsz⟩,Kl,Qfz]; rfl
def QFp(h:l.length=len):Qpi n hp 0 1 len (some (cells Qx l))=some (.sl (fz Qx l)):=Qac Qx h
def PV.wk:PV->PV
 | .slc xs=>.sl xs
 | p=>p
def DV.wk:DV->DV
 | .pv p=>.pv p.wk
 | .agg cs=>.agg (go cs)
 | .tup cs=>.tup (go cs)
 | d=>d
where
 go:List DV->List DV
  | []=>[]
  | d::r=>d.wk::go r
def Q7:∀ (ds:List DV),DV.wk.go ds=ds.map DV.wk
 | []=>rfl
 | d::r=>by rw[DV.wk.go,Q7 r]; rfl
def RelP.wk(h:RelP w im p v):RelP w im p.wk v:=by
 cases h with
 | slc xs a sz val h1 h2 h3 h4 h5=>exact .sl xs a xs.length sz val (Jp _) h1 h2 h3 h4 h5
 | lit v h=>exact .lit v h
 | str l=>exact .str l
 | sl xs a cap sz val h1 h2 h3 h4 h5 h6=>exact .sl xs a cap sz val h1 h2 h3 h4 h5 h6
def RelD.wk (h:RelD w β hp d v):RelD w β hp d.wk v:=by
 induction h with
 | pv p v h=>exact .pv _ _ h.wk
 | ptr k off b h hb=>exact .ptr k off b h hb
 | own k sz off len cap b C T m h hb h1 h2 h3 h4=>exact .own k sz off len cap b C T m h hb h1 h2 h3 h4
 | ownc k sz off len cap b o C T m h hb h1 h2 h3 h4 h5=>exact .ownc k sz off len cap b o C T m h hb h1 h2 h3 h4 h5
 | own0 k sz a h hb ha=>exact .own0 k sz a h hb ha
 | ip cs ad val h1 h2 h3=>exact .ip cs ad val h1 h2 h3
 | agg ds vs h _ ih =>
   refine .agg _ vs (by rw[Q7,Jc]; exact h) (fun i d hd=>?_)
   rw[Q7,Jb] at hd
   obtain⟨x,h1,h2⟩:=Qz hd
   subst h2; exact ih i x h1
 | fn f ds es vs us h h' h1 h2 _ _=>exact .fn f ds es vs us h h' h1 h2
 | tup ds vs h _ ih =>
   refine .tup _ vs (by rw[Q7,Jc]; exact h) (fun i d hd=>?_)
   rw[Q7,Jb] at hd
   obtain⟨x,h1,h2⟩:=Qz hd
   subst h2; exact ih i x h1
 | opt c d v h hf _=>exact .opt c d v h hf
 | any v=>exact .any v
mutual
def Qru(p:Nat->Bool):∀ (d:DV),d.nums p=true->d.wk.nums p=true
 | .pv _,_=>rfl
 | .ptr _ _,h=>h
 | .own _ _ _ _,h=>h
 | .ownc _ _ _ _ _,h=>h
 | .ip _,_=>rfl
 | .any,_=>rfl
 | .agg cs,h=>by simp only[DV.nums] at h; simp only[DV.wk,DV.nums]; exact Qe9 p cs h
 | .tup cs,h=>by simp only[DV.nums] at h; simp only[DV.wk,DV.nums]; exact Qe9 p cs h
 | .fn _ _ _,h=>h
 | .opt _ _,h=>h
def Qe9 (p:Nat->Bool):∀ (ds:List DV),DV.nums.go p ds = true->DV.nums.go p (DV.wk.go ds) = true
 | [],_=>rfl
 | d :: r,h=>by
   simp only[DV.nums.go,Jq] at h
   simp only[DV.wk.go,DV.nums.go,Jq]
   exact⟨Qru p d h.1,Qe9 p r h.2⟩
end
abbrev QHU(d:DV):DV->Qa->Prop:=fun r h'=>h'=[]/\r.nums (fun _=>false)=true/\r.wk=d
def VCalls.unwk(c:VCalls P g args h (QHU d)):VCalls P g args h (Ret d):=
 ⟨fun w β vs hh ha=>(c.run w β vs hh ha).mono fun _ _ ⟨v,r,h',β',a,b,c,e,k1,k2,k3⟩=>⟨v,d,h',β',a,b,c,k3▸e.wk,k1,k3▸Qru _ r k2,rfl⟩⟩
def QzF:∀ (l:List PV),(∀ p∈l,p.wk=p)->DV.wk.go (l.map DV.pv)=l.map DV.pv
 | [],_=>rfl
 | a::r,h=>by simp only[Js,DV.wk.go,DV.wk]; rw[h a (by simp),QzF r fun p hp=>h p (by simp[hp])]
def Qbr(e:Enc α)(l:List α)(h:∀ a,∀ p∈e.enc a,p.wk=p):DV.wk.go (cells e l)=cells e l:=by
 rw[Qe6]
 refine QzF _ fun p hp=>?_
 obtain⟨c,hc,hp⟩:=List.mem_flatten.1 hp
 obtain⟨a,_,rfl⟩:=Ka.1 hc
 exact h a p hp
def QH1(l:List Int):DV.wk.go (cells Qx l)=cells Qx l:=Qbr Qx l fun a p hp=>by simp[Qx] at hp; subst hp; rfl
theorem Qx4:Qnw (.pv p)=[]:=rfl
def Qpc (e:Enc α) (l:List α) (h:0 < l.length):QqC (.pv (.sl (fz e l))) = some false:=by
 cases l with
 | nil=>simp at h
 | cons a r =>
   have hl:=e.hlen a
   have hs:=e.hsz
   simp only[fz,Js]
   cases he:e.enc a with
   | nil=>rw[he] at hl; simp at hl; omega
   | cons p c=>rfl
end Go.V
namespace Go.V
open Go.Lib
def bts(P:Program)(S T:TypeId):Bool:=match P.underlying S,P.underlying T with
 | some (.slice e),some .string=>(match P.underlying e with | some (.int .u8)=>true | _=>false)
 | _,_=>false
def QAU (hp:Qa) (off len:Nat) (b:Option (List DV)):Option (DV × Qa):=match b with
 | some cs=>if off + len<=cs.length then match Qb0 ((cs.drop off).take len) with
   | some l=>if l.length=len then some (.pv (.str l),hp) else none
   | none=>none
   else none
 | none=>none
def Qgw (h:bts P S T = true):Qbs P hp S T (.own k 1 off len) = QAU hp off len (Qh hp k):=by
 unfold bts at h
 split at h
 ·rename_i e hs ht
  split at h
  ·rename_i he
   unfold Qbs Qc7 QAU
   simp only[hs,ht,he,Qzm,QmV]
   cases Qh hp k with
   | none=>rfl
   | some cs =>
     simp only[Uk,true_and]
     by_cases hc:off+len<=cs.length
     ·simp only [if_pos hc]
      cases hb:Qb0 ((cs.drop off).take len) with
      | none=>rfl
      | some l =>
        simp only
        by_cases hl:l.length=len
        ·simp only[if_pos hl]; rfl
        ·simp only[if_neg hl]; rfl
     ·simp only[if_neg hc]; rfl
  ·cases h
 ·cases h
def Qkv(l:List UInt8):Qb0 (cells Qfv l)=some l:=by
 rw[QAk]
 induction l with
 | nil=>rfl
 | cons b l ih=>simp only[Js,Qb0,ih]; simp
theorem QwK:QAU hp 0 1 (some [.pv (.lit (.int .u8 n))])=some (.pv (.str [UInt8.ofNat n.toNat]),hp):=rfl
end Go.V
namespace Go.V
def aft(o:Oper)(l:List Nat):Oper:={ o with after:=(o.after.toList++l.map fun i=>(⟨i,.data⟩:Edge)).toArray }
def QzM(D:List (List Nat)):Nat->List Oper->List Oper
 | _,[]=>[]
 | j,o::r=>aft o (D.getD j [])::QzM D (j+1) r
def tcl(ops:Array Oper)(D:List (List Nat)):Array Oper:=(QzM D 0 ops.toList).toArray
def dOk(ops:Array Oper)(D:List (List Nat)):Bool:=
 (JC ops.size).all fun j=>(D.getD j []).all fun i=>bnd ops j i||(JC ops.size).any fun m=>bnd ops j m&&(D.getD m []).contains i
def Qos (D:List (List Nat)):∀ (l:List Oper) (j i:Nat),(QzM D j l)[i]? = l[i]?.map fun o=>aft o (D.getD (j + i) [])
 | [],j,i=>by simp[QzM]
 | o::r,j,0=>by simp[QzM]
 | o :: r,j,i + 1=>by
   simp only[QzM,KN]
   rw[Qos D r (j+1) i,K5]; rfl
def QgR(ops:Array Oper)(D:List (List Nat))(i:Nat):(tcl ops D)[i]?=ops[i]?.map fun o=>aft o (D.getD i []):=by
 have:=Qos D ops.toList 0 i
 simpa [tcl] using this
def Qor(D:List (List Nat)):∀ (l:List Oper) (j:Nat),(QzM D j l).length=l.length
 | [],_=>rfl
 | o::r,j=>by simp[QzM,Qor D r]
def QwU(ops:Array Oper)(D:List (List Nat)):(tcl ops D).size=ops.size:=by simp[tcl,Qor]
section
variable {P:Program} {ops:Array Oper} {D:List (List Nat)} {Q:Exit->Act->World->Prop}
theorem Qsu(i:Nat):((tcl ops D)[i]?).bind (·.dst)=(ops[i]?).bind (·.dst):=by
 rw[QgR]; cases ops[i]?<;>rfl
theorem Qnb(tmps:Array Value):yielded (tcl ops D) tmps=yielded ops tmps:=by
 funext j
 unfold yielded
 rw[Qsu]
theorem QwT (h:wpOp P (tcl ops D) Q i K a w):wpOp P ops Q i K a w:=by
 unfold wpOp at h |-
 rw[QgR] at h
 cases ho:ops[i]? with
 | none=>simpa [ho] using h
 | some o =>
   simp only[ho,Jv] at h |-
   rw[Qnb] at h
   exact h
def Cl(D:List (List Nat))(L:Array Bool):Prop:=∀ j,j<L.size->L.getD j false=true->∀ i∈D.getD j [],L.getD i false=true
theorem Qld(hd:dOk ops D=true)(hs:L.size=ops.size)(hc:Cl D L)(i:Nat)(h:i∈Region.ready .any ops L):i∈Region.ready .any (tcl ops D) L/\∀ m∈D.getD i [],L.getD m false=true:=by
 obtain⟨h0,o,ho,hdep⟩:=mem_ready.1 h
 have hlt:i<ops.size:=(Jh.1 ho).1
 have key:∀ m∈D.getD i [],L.getD m false=true:=by
  intro m hm
  have h1:=JZ.1 hd i (JS.2 hlt)
  have h2:=JZ.1 h1 m hm
  rw[J2] at h2
  have dep:∀ x,bnd ops i x=true->L.getD x false=true:=by
   intro x hx
   unfold bnd at hx
   rw[ho] at hx
   simp only[K9,Jq,beq_iff_eq] at hx
   obtain⟨e,he,hb,rfl⟩:=hx
   exact hdep e (by simpa using he) hb
  rcases h2 with h2 | h2
  ·exact dep m h2
  ·obtain ⟨x,hx,h3⟩:=K9.1 h2
   rw[Jq] at h3
   exact hc x (by rw[hs]; exact JS.1 hx) (dep x h3.1) m (by simpa using h3.2)
 refine⟨mem_ready.2 ⟨h0,aft o (D.getD i []),by rw[QgR,ho]; rfl,fun e he hb=>?_⟩,key⟩
 simp only[aft,Ua,KC,Ka] at he
 rcases he with he | ⟨m,hm,rfl⟩
 ·exact hdep e (by simpa using he) hb
 ·exact key m hm
theorem Qez (hs:L.size = ops.size) (hd:dOk ops D = true) (hc:Cl D L):(Region.ready .any ops L = [] ↔ Region.ready .any (tcl ops D) L = []):=by
 constructor
 ·intro h
  apply Kb.2
  intro j hj
  obtain⟨h0,o,ho,hdep⟩:=mem_ready.1 hj
  rw[QgR] at ho
  cases hj':ops[j]? with
  | none=>rw[hj'] at ho; cases ho
  | some o' =>
    rw[hj'] at ho
    simp only[Jv,K4.injEq] at ho
    subst ho
    have:j∈Region.ready .any ops L:=mem_ready.2 ⟨h0,o',hj',fun e he hb=>hdep e (by simp only[aft,Ua,KC]; exact .inl (by simpa using he)) hb⟩
    rw[h] at this; cases this
 ·intro h
  apply Kb.2
  intro j hj
  have:=(Qld hd hs hc j hj).1
  rw[h] at this; cases this
theorem Qlc (hd:dOk ops D = true):∀ (fuel:Nat) (L:Array Bool) (a:Act) (w:World),L.size = ops.size->Cl D L->wpAny P .any (tcl ops D) Q fuel L a w->wpAny P .any ops Q fuel L a w
 | 0,L,a,w,hs,hc,h=>⟨(Qez hs hd hc).2 h.1,h.2⟩
 | fuel + 1,L,a,w,hs,hc,h=>by
   refine⟨fun hr=>h.1 ((Qez hs hd hc).1 hr),fun i hi=>?_⟩
   obtain⟨h1,h2⟩:=Qld hd hs hc i hi
   refine wpOp_mono (fun a w hw=>Qlc hd fuel _ a w (by simpa using hs) ?_ hw) (QwT (h.2 i h1))
   intro j hj hl m hm
   by_cases hji:j=i
   ·subst hji
    have:=h2 m hm
    by_cases hmj:m=j
    ·subst hmj; exact hl
    ·rw[getD_set_ne false (Ne.symm hmj)]; exact this
   ·rw [getD_set_ne false (Ne.symm hji)] at hl
    have:=hc j (by simpa using hj) hl m hm
    by_cases hmi:m=i
    ·subst hmi
     have hlt:m<L.size:=by
      rcases Uh m L.size with h | h
      ·exact h
      ·simp[h] at this
     simp[hlt]
    ·rw[getD_set_ne false (Ne.symm hmi)]; exact this
inductive SameL:List Oper->List Oper->Prop
 | nil:SameL [] []
 | cons (o:Oper) (l:List Nat) {r r':List Oper}:SameL r r'->SameL (aft o l::r) (o::r')
theorem QbV:∀ (l:List Nat),SameL (pick (tcl ops D).toList l) (pick ops.toList l)
 | []=>.nil
 | i :: r=>by
   have h:(tcl ops D).toList[i]?=(ops[i]?).map fun o=>aft o (D.getD i []):=by
    have:=QgR ops D i
    simpa using this
   have h':ops.toList[i]?=ops[i]?:=by simp
   rw[pick,pick,h,h']
   cases ops[i]? with
   | none=>exact QbV r
   | some o=>exact .cons o _ (QbV r)
theorem QiA:QK (tcl ops D).toList S (aft o l)=QK ops.toList S o:=by
 have key:∀ j:Nat,(tcl ops D).toList[j]?.bind (·.dst)=ops.toList[j]?.bind (·.dst):=fun j=>by
  have:=Qsu (ops:=ops) (D:=D) j
  simpa using this
 unfold QK
 have e:(aft o l).guard=o.guard:=rfl
 rw[e]
 simp only[key]
theorem QjC:∀ {l' l:List Oper},SameL l' l->∀ {K K':St->Prop} {S:St},(∀ S,K S->K' S)->Qar P ops.toList l K S->Qar P (tcl ops D).toList l' K' S:=by
 intro l' l hs
 induction hs with
 | nil=>intro K K' S hk h; exact hk S h
 | cons o x _ ih =>
   intro K K' S hk h
   unfold Qar at h |-
   rw[QiA]
   refine⟨h.1,?_⟩
   have h2:=h.2
   have e1:(aft o x).op=o.op:=rfl
   have e2:(aft o x).guard=o.guard:=rfl
   have e3:(aft o x).dst=o.dst:=rfl
   rw[e1,e2,e3]
   clear h
   generalize QK ops.toList S o=gd at h2 |-
   split at h2
   ·exact h2.elim
   ·exact ih hk h2
   ·split at h2
    ·rename_i g args hc
     exact h2.mono fun r h' q=>ih hk q
    ·split at h2
     ·rename_i d hp' hv
      exact ih hk h2
     ·exact h2.elim
theorem Qsw:∀ {l' l:List Oper},SameL l' l->Qio ops.toList S S1 l->Qio (tcl ops D).toList S S1 l':=by
 intro l' l hs
 induction hs with
 | nil=>intro h; exact h
 | cons o x _ ih =>
   intro h
   refine⟨?_,ih h.2⟩
   rw[QiA]
   exact h.1
theorem Qsv:∀ {l' l:List Oper},SameL l' l->QcR P S l->QcR P S l':=by
 intro l' l hs
 induction hs with
 | nil=>intro h; exact h
 | cons o x _ ih=>intro h; exact⟨h.1,ih h.2⟩
theorem Qst:∀ {segs:List Seg} {S:St},vsp P ops.toList segs K S->vsp P (tcl ops D).toList segs K S
 | [],S,h=>h
 | s :: r,S,h=>by
   unfold vsp at h |-
   exact⟨Qsv (QbV _) h.1,QjC (QbV _) (fun S1 ⟨a,b⟩=>⟨Qsw (QbV _) a,QjC (QbV _) (fun S h=>Qst h) b⟩) h.2⟩
end
def Qbh{id:Nat}(D:List (List Nat))(H0:List Nat)(segs:List Seg)(hm:P.follows .mixedOrders=true)(hd:dOk ops D=true)(hok:QjF (tcl ops D) H0 segs=true)(h:Qar P ops.toList (pick ops.toList H0) (vsp P ops.toList segs (Q .normal)) S):VDraw P id ops Q S:=by
 have h':Qar P (tcl ops D).toList (pick (tcl ops D).toList H0) (vsp P (tcl ops D).toList segs (Q .normal)) S:=QjC (QbV _) (fun S h=>Qst h) h
 intro O β a w hs
 have hw:=Qiw (ops:=tcl ops D) H0 segs hok h' hs
 rw[QwU] at hw
 refine wp_region_any hm (Qlc hd _ _ _ _ (by simp) (fun j _ hl=>?_) hw)
 by_cases hj:j<ops.size<;>simp[hj] at hl
end Go.V
namespace Go.V
def QdT:Enc (List UInt8):=⟨1,fun s=>[.str s],K1,fun _=>rfl⟩
def QvK(l:List (List UInt8)):cells QdT l=l.map fun s=>DV.pv (.str s):=by
 induction l with
 | nil=>rfl
 | cons a r ih=>rw[QX,ih]; rfl
def Qq4(l:List (List UInt8))(i:Nat)(h:i<l.length):(cells QdT l)[i]?=some (.pv (.str (l.getD i []))):=by
 rw[QvK,Jb,Jm,Ja h]; rfl
structure C where
 l:List UInt8
 at_:Nat
 ha:at_<=l.length
 hl:l.length<=1000000
def cc(c:C):List DV:=[.pv (.sl (fz Qfv c.l)),.int .i64 c.at_]
theorem Qcj(c:C):DV.nums.go (fun _=>false) (cc c)=true:=rfl
def Qoq(x n:Nat)(h:1<=n):∃ y:Nat,(x:Int).tmod n=y/\y<n:=⟨x % n,by rw[Int.ofNat_tmod],Nat.mod_lt _ h⟩
def Qfc{hp:Qa}{l:List UInt8}{n:Nat}(h:l.length=n):QAU hp 0 n (some (cells Qfv l))=some (.pv (.str l),hp):=by
 subst h
 have e:((cells Qfv l).drop 0).take l.length=cells Qfv l:=by rw[Kl,J3]; rw[QdU]; exact Jp _
 simp only[QAU]
 rw[if_pos (by rw[QdU]; omega),e,Qkv]
 simp
end Go.V
namespace Go.V
def Qc8(hf:P.funcs[g]?=some fn)(hb:fn.body=some c)(hname:(fn.name == "runtime.NumGoroutine")=false)(hn:args.length<=fn.ntmps)(hc:VWp P c (Qc4 P fn.results.toList h.length R) ⟨fn.ntmps,h.length,QhT 0 args,h⟩):VCalls P g args h R:=by
 refine Qfe hf hb hname hn (fun e S hq=>?_) hc
 unfold Qc4 at hq
 split at hq
 ·split at hq
  ·rename_i d hd; exact⟨.inl rfl,d,hd,.inl fun _=>hq⟩
  ·exact hq.elim
 ·split at hq
  ·rename_i d hd; exact⟨.inr rfl,d,hd,.inl fun _=>hq⟩
  ·exact hq.elim
 ·exact hq.elim
def VWp.weak(h:VWp P c Q S')(hw:Qro S S'):VWp P c Q S:=fun O _ a w hs=>
 let ⟨_,h'⟩:=hs.weak hw
 h O _ a w h'
def Qim(f:Func):Code:=match f.body with | some c=>c | none=>.skip
end Go.V
namespace Go.V
open Go.Lib
def Qlz(h:RelL w β hp (d::ds) vs):RelD w β hp d (vs.getD 0 undef):=h.2 0 d rfl
def VCalls.room(h0:0<len)(h:∀ cap,len<=cap->VCalls P g (.ownc k sz off len cap::rest) hp R):VCalls P g (.own k sz off len::rest) hp R:=by
 refine⟨fun w β vs hh ha=>?_⟩
 have h1:=Qlz ha
 have key:∃ cap,len<=cap/\RelD w β hp (.ownc k sz off len cap) (vs.getD 0 undef):=by
  generalize vs.getD 0 undef=v at h1
  cases h1 with
  | own0=>omega
  | own _ _ _ _ cap b C T m hk hm h1 h2 h3 h4=>exact⟨cap,h1,.ownc _ _ _ _ _ b off C T m hk hm h1 h2 h3 h4 (fun _=>rfl)⟩
 obtain⟨cap,hc,hr⟩:=key
 refine(h cap hc).run w β vs hh ⟨ha.1,fun i d hd=>?_⟩
 cases i with
 | zero=>simp at hd; subst hd; exact hr
 | succ i=>exact ha.2 (i+1) d (by simpa using hd)
def VCalls.open0 (h:∀ ad cap,(∀ a,ad = some a->0 < cap->a.spot = none)->VCalls P g (.pv (.lit (.slice ad 0 cap)) :: rest) hp R):VCalls P g (.pv (.sl []) :: rest) hp R:=by
 refine⟨fun w β vs hh ha=>?_⟩
 have h1:=Qlz ha
 have key:∃ ad cap,(∀ a,ad = some a->0 < cap->a.spot = none)/\RelD w β hp (.pv (.lit (.slice ad 0 cap))) (vs.getD 0 undef):=by
  generalize vs.getD 0 undef=v at h1
  cases h1 with
  | pv _ _ hp0=>cases hp0 with
    | sl _ a cap sz val h1 h2 h3 h4 h5 h6=>exact⟨a,cap,h4,.pv _ _ (.lit _ rfl)⟩
 obtain⟨ad,cap,hs,hr⟩:=key
 refine(h ad cap hs).run w β vs hh ⟨ha.1,fun i d hd=>?_⟩
 cases i with
 | zero=>simp at hd; subst hd; exact hr
 | succ i=>exact ha.2 (i+1) d (by simpa using hd)
def QiZ{w:World}{b o:Nat}{C:Array Value}{m:Nat×Nat}(h:w.heap[b]?=some (.cells C T m))(hm:m.2<=m.1):w.frozen? ⟨b,o,none⟩=false:=by
 obtain⟨lo,up⟩:=m
 dsimp only at hm
 have:¬ (lo<=o/\o<up):=by omega
 simp only[World.frozen?,h]
 simpa using this
def QkY (hf:P.funcs[g]? = some fn) (hname:(fn.name == "runtime.NumGoroutine") = false) (hb:fn.body.isNone = true) (hn:Extern.findNext fn = none) (he:Extern.find fn = some (Extern.SlicesOverlaps.overlaps #[tS,tS] #[tR])) (ht:QE P tS = some (none,e,n)) (hk:hp[k]? = some B) (hl:B.live = true) (hk2:hp[k2]? = some B2) (hl2:B2.live = true) (hne:k ≠ k2) (hlen:0 < len) (hsz:0 < B2.cells.length):
 VCalls P g [.own k sz off len,.ownc k2 sz2 off2 len2 cap2] hp fun r h'=>r=.bool false/\h'=hp:=by
 refine⟨fun w β vs hh ha=>?_⟩
 obtain⟨hu,i,hi,rfl⟩:=Qw ht
 have h1:=ha.2 0 _ rfl
 have h2:=ha.2 1 _ rfl
 have hvs:vs=#[vs.getD 0 undef,vs.getD 1 undef]:=by
  have h1:=ha.1
  simp at h1
  apply Array.ext
  ·simp; omega
  ·intro i h2 h3
   simp at h3
   match i,h3 with
   | 0,_=>simp[Ju h2]
   | 1,_=>simp[Ju h2]
 generalize vs.getD 0 undef=v at *
 generalize vs.getD 1 undef=u at *
 subst hvs
 have key:(Extern.SlicesOverlaps.overlaps #[tS,tS] #[tR] #[v,u]).run P w = .ok (.bool false) w:=by
  cases h2 with
  | ownc _ _ _ _ _ b2 o2 C2 T2 m2 _ hm2 g1 g2 g3 g4 g5 =>
    cases h1 with
    | own0=>omega
    | own _ _ _ _ cap b C T m _ hm f1 f2 f3 f4 =>
      obtain⟨C0,c1,_,_⟩:=hh.blk k B b hk hl hm
      obtain⟨C20,d1,d2,_⟩:=hh.blk k2 B2 b2 hk2 hl2 hm2
      have hbb:b≠b2:=fun e=>hne (hh.inj k k2 B B2 b hk hk2 hl hl2 hm (by rw[e]; exact hm2))
      rw[f3] at c1
      simp at c1
      obtain⟨rfl,rfl,rfl⟩:=c1
      rw[g3] at d1
      simp at d1
      obtain⟨rfl,rfl,rfl⟩:=d1
      refine run_overlaps_apart w tS tR e hu i.size (fun w=>by simp[sizeOf,typeInfo,hi]) ⟨b,off,none⟩ ⟨b2,o2,none⟩ len cap len2 cap2 hbb _ _ _ _ (by simp[World.shape?,f3]; exact⟨rfl,rfl⟩) (by simp[World.shape?,g3]; exact⟨rfl,rfl⟩) (by omega) ?_ ?_
      ·exact QiZ f3 C0.ok
      ·exact QiZ f3 C0.ok
 refine .inr ⟨fn,.bool false,w,hf,hb,?_,.bool false,.bool false,hp,β,rfl,Evo.refl w β hp,hh,.pv _ _ (.lit _ rfl),rfl,rfl⟩
 rw[run_callFunc_extern hf hname hb hn he]
 simp[key]
mutual
def QiR (σ:Nat->Nat):∀ (d:DV),(d.ren σ).nums (fun _=>false) = true->d.nums (fun _=>false) = true
 | .pv _,_=>rfl
 | .ptr _ _,h=>h
 | .own _ _ _ _,h=>h
 | .ownc _ _ _ _ _,h=>h
 | .ip _,_=>rfl
 | .any,_=>rfl
 | .agg cs,h=>Qbl σ cs h
 | .tup cs,h=>Qbl σ cs h
 | .fn f a b,h=>by
   simp only[DV.ren,DV.nums,Jq] at h |-
   exact⟨Qbl σ a h.1,Qbl σ b h.2⟩
 | .opt c d,h=>QiR σ d h
def Qbl (σ:Nat->Nat):∀ (ds:List DV),DV.nums.go (fun _=>false) (DV.ren.go σ ds) = true->DV.nums.go (fun _=>false) ds = true
 | [],_=>rfl
 | d :: r,h=>by
   simp only[DV.ren.go,DV.nums.go,Jq] at h |-
   exact⟨QiR σ d h.1,Qbl σ r h.2⟩
end
def QcQ(kp:Nat->Bool)(h:Qa):Qa:=h.mapIdx fun i B=>if kp i then B else ⟨B.ty,false,[]⟩
def Qdt(kp:Nat->Bool)(h:Qa):(QcQ kp h).length=h.length:=by simp[QcQ]
def Qvs(hk:(QcQ kp h)[k]?=some B)(hl:B.live=true):kp k=true/\h[k]?=some B:=by
 unfold QcQ at hk
 rw[KZ] at hk
 obtain⟨x,h1,h2⟩:=Qz hk
 split at h2
 ·rename_i hkp
  subst h2
  exact⟨hkp,h1⟩
 ·subst h2
  cases hl
def VCalls.freshK {g:FuncId} {args:List DV} {h:Qa} (kp:Nat->Bool) {R:DV->Qa->Prop} {R':Nat->Nat->TypeId->List DV->Prop} (c:VCalls P g args h R) (hR:∀ r h',R r h'->(∀ i B,kp i = true->h[i]? = some B->h'[i]? = some B/\DV.nums.go (fun _=>false) B.cells = true)/\∃ sz n T cs,((r = .pv (.slc [])/\n = 0/\cs = [])\/∃ k,(r = .own k sz 0 n\/∃ cap,0 < cap/\r = .ownc k sz 0 n cap)/\(kp k = true->h.length<=k)/\h'[k]? = some ⟨T,true,cs⟩/\DV.nums.go (fun _=>false) cs = true)/\R' sz n T cs):
 VCalls P g args h fun r h'=>∃ sz n T cs,R' sz n T cs/\r=.own h.length sz 0 n/\h'=QcQ kp h++[⟨T,true,cs⟩]:=by
 refine⟨fun w β vs hh ha=>(c.run w β vs hh ha).mono ?_⟩
 rintro e w' ⟨v,r,h',β',rfl,ev,hh',hr,hq⟩
 obtain⟨hkeep,sz,n,T,cs,hrk,hR'⟩:=hR r h' hq
 obtain ⟨fk,hnum,hlive,hnone,hval⟩:∃ fk:Option Nat,DV.nums.go (fun _=>false) cs = true/\(∀ b,fk = some b->∃ k,h'[k]? = some ⟨T,true,cs⟩/\β'.f k = some b/\(kp k = true->h.length<=k))/\(fk = none->cs = []) /\
  ∀ (β2:Map) (h2:Qa) (j:Nat),j<h2.length->β2.f j=fk->RelD w' β2 h2 (.own j sz 0 n) v:=by
  rcases hrk with⟨rfl,rfl,rfl⟩ | ⟨k,hrk,hkp,hk,hnum⟩
  ·refine ⟨none,rfl,by simp,fun _=>rfl,fun β2 h2 j hj hf=>?_⟩
   cases hr with
   | pv _ _ hp0=>cases hp0 with
     | slc _ a sz2 val h1 h2 h3 h4 h5=>exact .own0 _ _ a hj hf trivial
  ·refine ⟨β'.f k,hnum,fun b hb=>⟨k,hk,hb,hkp⟩,fun hn=>hh'.none k _ hk rfl hn,fun β2 h2 j hj hf=>?_⟩
   rcases hrk with rfl | ⟨cap,hcap,rfl⟩
   ·cases hr with
    | own _ _ _ _ cap b C T' m _ hm h1 h2 h3 h4=>exact .own _ _ _ _ cap b C T' m hj (hf.trans hm) h1 h2 h3 h4
    | own0 _ _ a _ hm h1=>exact .own0 _ _ a hj (hf.trans hm) h1
   ·cases hr with
    | ownc _ _ _ _ _ b o C T' m _ hm h1 h2 h3 h4 h5 =>
      rw[h5 hcap]
      exact .own _ _ _ _ cap b C T' m hj (hf.trans hm) h1 h2 h3 h4
 have at_:∀ {j:Nat} {D:Blk},(QcQ kp h++[(⟨T,true,cs⟩:Blk)])[j]?=some D->D.live=true->(j<h.length/\kp j=true/\h[j]?=some D)\/(j=h.length/\D=⟨T,true,cs⟩):=fun {j D} hj hD=>by
  rw[List.getElem?_append,Qdt] at hj
  split at hj
  ·rename_i hlt
   obtain⟨g1,g2⟩:=Qvs hj hD
   exact .inl ⟨hlt,g1,g2⟩
  ·rename_i hge
   have hj0:j-h.length=0:=by
    rcases Nat.eq_zero_or_pos (j-h.length) with h0 | h0
    ·exact h0
    ·rw[Jt (by simp; omega)] at hj; cases hj
   rw[hj0] at hj
   simp at hj
   exact .inr ⟨by omega,hj.symm⟩
 have fnew:(ext β h.length fk).f h.length=fk:=by simp[ext]
 have fold:∀ {j},j<h.length->(ext β h.length fk).f j=β'.f j:=fun {j} hj=>by rw[QaO hj,ev.beta j hj]
 -- each block of the new heap is one of the old
 have src:∀ {j:Nat} {D:Blk},(QcQ kp h++[(⟨T,true,cs⟩:Blk)])[j]?=some D->D.live=true->DV.nums.go (fun _=>false) D.cells=true/\((ext β h.length fk).f j=none->D.cells=[])/\(∀ b,(ext β h.length fk).f j=some b->∃ k,h'[k]?=some D/\β'.f k=some b/\((j<h.length/\k=j)\/(j=h.length/\(kp k=true->h.length<=k)))):=fun {j D} hj hD=>by
  rcases at_ hj hD with⟨hlt,g1,g2⟩ | ⟨rfl,rfl⟩
  ·obtain ⟨g3,g4⟩:=hkeep j D g1 g2
   rw[fold hlt]
   exact⟨g4,fun hn=>hh'.none j D g3 hD hn,fun b hb=>⟨j,g3,hb,.inl ⟨hlt,rfl⟩⟩⟩
  ·rw [fnew]
   exact⟨hnum,hnone,fun b hb=>by obtain⟨k,k1,k2,k3⟩:=hlive b hb; exact⟨k,k1,k2,.inr ⟨rfl,k3⟩⟩⟩
 have lv:∀ b,live (ext β h.length fk) (QcQ kp h++[(⟨T,true,cs⟩:Blk)]) b->live β' h' b:=by
  rintro b ⟨j,D,h1,h2,h3⟩
  obtain⟨_,_,hs⟩:=src h1 h2
  obtain⟨k,k1,k2,_⟩:=hs b h3
  exact⟨k,D,k1,h2,k2⟩
 have im:∀ b,img (ext β h.length fk) (QcQ kp h++[(⟨T,true,cs⟩:Blk)]) b->img β' h' b:=by
  rintro b (hb | hb)
  ·exact .inl (by rw[ev.X]; exact hb)
  ·exact .inr (lv b hb)
 have rel:∀ {ds:List DV},DV.nums.go (fun _=>false) ds=true->∀ (i:Nat) (d:DV),ds[i]?=some d->∀ u,RelD w' β' h' d u->RelD w' (ext β h.length fk) (QcQ kp h++[(⟨T,true,cs⟩:Blk)]) d u:=fun {ds} hnum i d hd u hu=>by
  have hn:d.nums (fun _=>false)=true:=DV.nums_go hnum i d hd
  have:=RelD.ren (σ:=fun _=>0) (p:=fun _=>false) (β':=ext β h.length fk) (hp':=QcQ kp h++[(⟨T,true,cs⟩:Blk)]) (fun _ h=>by cases h) im hu hn
  rwa [Qd5 _ d hn] at this
 have evo:Evo w β h w' (ext β h.length fk) (QcQ kp h++[(⟨T,true,cs⟩:Blk)]):=
  ⟨ev.os,ev.tape,ev.output,ev.size,by simp[Qdt],fun j hj=>QaO hj,ev.same,ev.shape,fun b hb hl=>ev.im b hb (lv b hl),rfl⟩
 have heap:HeapRel w' (ext β h.length fk) (QcQ kp h++[(⟨T,true,cs⟩:Blk)]):=by
  refine⟨fun j D b h1 h2 h3=>?_,fun j D h1 h2 h3=>?_,fun i j D D' b h1 h2 h3 h4 f1 f2=>?_,fun j D b h1 h2 h3=>?_,fun b hb=>Jk (hh.bound b hb) ev.size⟩
  ·obtain ⟨s1,_,s2⟩:=src h1 h2
   obtain⟨k,hk,hb,_⟩:=s2 b h3
   obtain⟨C,c1,c2,c3⟩:=hh'.blk k D b hk h2 hb
   exact⟨C,c1,c2,fun i d hd=>⟨(c3 i d hd).1,rel s1 i d hd _ (c3 i d hd).2⟩⟩
  ·obtain ⟨_,s1,_⟩:=src h1 h2
   exact s1 h3
  ·obtain ⟨_,_,s1⟩:=src h1 h3
   obtain⟨_,_,s2⟩:=src h2 h4
   obtain⟨k,k1,k2,k3⟩:=s1 b f1
   obtain⟨l,l1,l2,l3⟩:=s2 b f2
   have e:=hh'.inj k l D D' b k1 l1 h3 h4 k2 l2
   subst e
   rcases at_ h1 h3 with⟨p1,p2,_⟩ | ⟨p1,_⟩<;>rcases at_ h2 h4 with⟨q1,q2,_⟩ | ⟨q1,_⟩
   ·rcases k3 with⟨_,k3⟩ | ⟨k3,_⟩<;>rcases l3 with⟨_,l3⟩ | ⟨l3,_⟩<;>omega
   ·rcases k3 with ⟨_,k3⟩ | ⟨k3,_⟩
    ·subst k3
     rcases l3 with⟨l3,_⟩ | ⟨_,l3⟩
     ·omega
     ·have:=l3 p2; omega
    ·omega
   ·rcases l3 with ⟨_,l3⟩ | ⟨l3,_⟩
    ·subst l3
     rcases k3 with⟨k3,_⟩ | ⟨_,k3⟩
     ·omega
     ·have:=k3 q2; omega
    ·omega
   ·omega
  ·obtain ⟨_,_,s2⟩:=src h1 h2
   obtain⟨k,hk,hb,_⟩:=s2 b h3
   have:=hh'.avoid k D b hk h2 hb
   rwa [ev.X] at this
 exact⟨v,.own h.length sz 0 n,_,_,rfl,evo,heap,hval _ _ _ (by simp[Qdt]) fnew,sz,n,T,cs,hR',rfl,rfl⟩
def QCs(hp:Qa)(k j:Nat):(kill hp k)[j]?=if j=k then (hp[j]?).map (fun B=>⟨B.ty,false,[]⟩) else hp[j]?:=by
 unfold kill
 split
 ·rename_i B hk
  have hlt:=(Jf.1 hk).1
  by_cases e:j=k
  ·subst e; rw[if_pos rfl,Ko hlt,hk]; rfl
  ·rw[if_neg e,Kk (by omega)]
 ·rename_i hk
  split
  ·rename_i e; subst e; rw[hk]; rfl
  ·rfl
def Qpa (hp:Qa) (l:List Nat) (j:Nat):(Qgc hp l)[j]? = if j ∈ l then (hp[j]?).map (fun B=>⟨B.ty,false,[]⟩) else hp[j]?:=by
 induction l generalizing hp with
 | nil=>simp[Qgc]
 | cons k r ih =>
   rw[Qgc,ih,QCs]
   by_cases e:j=k
   ·subst e
    simp only[if_true,KO,true_or]
    split
    ·cases hp[j]?<;>rfl
    ·rfl
   ·simp only[KO,e,false_or,if_false]
def Qsf {g:FuncId} {args args0:List DV} {hp h0:Qa} {K:DV->Qa->Prop} {R':Nat->Nat->TypeId->List DV->Prop} (sel:List Nat) (kp:Nat->Bool) (hnd:sel.Nodup) (hl:Ql2 hp sel = some h0) (hok:QiS hp sel = true) (c:VCalls P g args0 h0 fun r h'=>∃ sz n T cs,R' sz n T cs/\r = .own h0.length sz 0 n/\h' = QcQ kp h0 ++ [⟨T,true,cs⟩]) (ha0:args0 = args.map (DV.ren fun j=>sel.idxOf j)) (ha:DV.nums.go sel.contains args = true) (hkeep:∀ i B,kp i = true->h0[i]? = some B->DV.nums.go (fun _=>false) B.cells = true) (hR:∀ sz n T cs,R' sz n T cs->DV.nums.go (fun _=>false) cs = true) (h:∀ sz n T cs,R' sz n T cs->K (.own hp.length sz 0 n) (Qgc hp (sel.filter fun k=>!kp (sel.idxOf k)) ++ [⟨T,true,cs⟩])):VCalls P g args hp K:=by
 refine(VCalls.frame sel hnd hl hok c ha0 ha).mono ?_
 rintro r h2 ⟨r0,h',⟨sz,n,T,cs,hR1,rfl,rfl⟩,hlen,rfl,rfl⟩
 obtain⟨l1,l2⟩:=QH hl
 have hlen0:h0.length=sel.length:=by rw[l1,Jc]
 have e1:DV.ren (back sel hp.length) (.own h0.length sz 0 n)=.own hp.length sz 0 n:=by
  simp[DV.ren,back,hlen0]
 have hcs:=hR sz n T cs hR1
 have rb:∀ {σ:Nat->Nat} {B:Blk},DV.nums.go (fun _=>false) B.cells=true->QcV σ B=B:=fun {σ B} hB=>by
  obtain⟨t,lv,c⟩:=B
  simp only[QcV]
  rw[<- DV.ren_go,QaK _ _ hB]
 have e2 : QW hp sel (QcQ kp h0 ++ [(⟨T,true,cs⟩:Blk)]) = Qgc hp (sel.filter fun k=>!kp (sel.idxOf k)) ++ [⟨T,true,cs⟩]:=by
  have hd:(QcQ kp h0++[(⟨T,true,cs⟩:Blk)]).drop sel.length=[⟨T,true,cs⟩]:=by
   rw[KA (by rw[Qdt,hlen0])]
  unfold QW
  rw[hd,Js,KR,rb hcs]
  congr 1
  apply Ki
  intro j
  rw[Qpa,Jb]
  by_cases hj:j<hp.length
  ·rw [KD hj,Jv]
   have hget:hp[j]?=some hp[j]:=Ja hj
   by_cases hm:j∈sel
   ·have hlt:=Kf hm
    have hc:sel.contains j=true:=by simpa using hm
    rw[if_pos hc]
    have hi:sel[sel.idxOf j]?=some j:=by rw[Ja hlt]; simp
    have hh0:h0[sel.idxOf j]?=some (QcV (fun j=>sel.idxOf j) hp[j]):=by
     have hlt0:sel.idxOf j<h0.length:=by rw[hlen0]; exact hlt
     have h3:=l2 (sel.idxOf j) h0[sel.idxOf j] (Ja hlt0)
     rw[Jb,hi,Jv,hget] at h3
     simp at h3
     rw[Ja hlt0,<- h3]
    have hdk:(QcQ kp h0++[(⟨T,true,cs⟩:Blk)]).getD (sel.idxOf j) default=if kp (sel.idxOf j) then QcV (fun j=>sel.idxOf j) hp[j] else ⟨hp[j].ty,false,[]⟩:=by
     rw[Jm,Jj (by rw[Qdt,hlen0]; exact hlt),QcQ,KZ,hh0]
     cases kp (sel.idxOf j)<;>rfl
    rw[hdk]
    cases hkp:kp (sel.idxOf j) with
    | true =>
      have hnf:¬ j∈sel.filter (fun k=>!kp (sel.idxOf k)):=by simp[hkp]
      rw[if_neg hnf,hget]
      simp only[if_true]
      have hB:=hkeep _ _ hkp hh0
      congr 1
      have hB':DV.nums.go (fun _=>false) hp[j].cells=true:=Qbl (fun j=>sel.idxOf j) _ (by rw[DV.ren_go]; exact hB)
      rw[rb hB,rb hB']
    | false =>
      have hnf:j∈sel.filter (fun k=>!kp (sel.idxOf k)):=by simp[hkp,hm]
      rw[if_pos hnf,hget]
      rfl
   ·have hc:sel.contains j = false:=by simpa using hm
    have hnf:¬ j∈sel.filter (fun k=>!kp (sel.idxOf k)):=by simp[hm]
    rw[if_neg (by rw[hc]; simp),if_neg hnf,Jm,hget]; rfl
  ·rw [Jt (l:=JC hp.length) (by simpa using Kt hj),Jt (l:=hp) (Kt hj)]
   simp
 rw[e1,e2]
 exact h sz n T cs hR1
abbrev QhQ(kp:Nat->Bool)(h:Qa)(sz n:Nat)(T:TypeId)(cs:List DV):DV->Qa->Prop:=fun r h'=>r=.own h.length sz 0 n/\h'=QcQ kp h++[⟨T,true,cs⟩]
def QAo(kp:Nat->Bool)(h:Qa)(sz n:Nat)(T:TypeId)(cs:List DV):DV->Qa->Prop:=fun r h'=>
 (∀ i B,kp i=true->h[i]?=some B->h'[i]?=some B/\DV.nums.go (fun _=>false) B.cells=true) /\
 ((r=.pv (.slc [])/\n=0/\cs=[])\/∃ k,(r=.own k sz 0 n\/∃ cap,0<cap/\r=.ownc k sz 0 n cap)/\(kp k=true->h.length<=k)/\h'[k]?=some ⟨T,true,cs⟩/\DV.nums.go (fun _=>false) cs=true)
def VCalls.newSl(c:VCalls P g args h (QAo kp h sz n T cs)):VCalls P g args h (QhQ kp h sz n T cs):=by
 refine(VCalls.freshK kp (R':=fun sz' n' T' cs'=>sz'=sz/\n'=n/\T'=T/\cs'=cs) c fun r h' hr=>⟨hr.1,sz,n,T,cs,hr.2,rfl,rfl,rfl,rfl⟩).mono ?_
 rintro r h' ⟨_,_,_,_,⟨rfl,rfl,rfl,rfl⟩,rfl,rfl⟩
 exact⟨rfl,rfl⟩
def QzJ(sel:List Nat)(c:VCalls P g args0 h0 (QhQ kp h0 sz n T cs))(hnd:sel.Nodup)(hl:Ql2 hp sel=some h0)(hok:QiS hp sel=true)(ha0:args0=args.map (DV.ren fun j=>sel.idxOf j))(ha:DV.nums.go sel.contains args=true)(hkeep:∀ i B,kp i=true->h0[i]?=some B->DV.nums.go (fun _=>false) B.cells=true)(hc:DV.nums.go (fun _=>false) cs=true)(h:K (.own hp.length sz 0 n) (Qgc hp (sel.filter fun k=>!kp (sel.idxOf k))++[⟨T,true,cs⟩])):VCalls P g args hp K:=by
 refine Qsf (R':=fun sz' n' T' cs'=>sz'=sz/\n'=n/\T'=T/\cs'=cs) sel kp hnd hl hok (c.mono fun r h' e=>⟨sz,n,T,cs,⟨rfl,rfl,rfl,rfl⟩,e.1,e.2⟩) ha0 ha hkeep ?_ ?_
 ·rintro _ _ _ _ ⟨rfl,rfl,rfl,rfl⟩; exact hc
 ·rintro _ _ _ _ ⟨rfl,rfl,rfl,rfl⟩; exact h
def QgM(c:VCalls P g args [] (QhQ kp [] sz n T cs))(ha:DV.nums.go (fun _=>false) args=true)(hc:DV.nums.go (fun _=>false) cs=true)(h:K (.own hp.length sz 0 n) (hp++[⟨T,true,cs⟩])):VCalls P g args hp K:=by
 refine QzJ [] c List.nodup_nil rfl rfl ?_ ?_ (by simp) hc ?_
 ·rw[<- DV.ren_go,QaK _ _ ha]
 ·rw[<- ha]; congr 1
 ·exact h
def QfQ(hp:Qa):List Nat->Prop
 | []=>True
 | k::r=>(k<hp.length/\DV.nums.go (fun _=>false) (hp.getD k default).cells=true)/\QfQ hp r
def Qcu (h:QfQ hp sel):∀ k ∈ sel,k < hp.length/\DV.nums.go (fun _=>false) (hp.getD k default).cells = true:=by
 induction sel with
 | nil=>simp
 | cons a r ih =>
   intro k hk
   rcases KO.1 hk with rfl | hk
   ·exact h.1
   ·exact ih h.2 k hk
def QaW(hB:DV.nums.go (fun _=>false) B.cells=true):QcV σ B=B:=by
 obtain⟨t,lv,c⟩:=B
 simp only[QcV]
 rw[<- DV.ren_go,QaK _ _ hB]
def Qoc {α β:Type} (l:List α) (f:α->Option β) (g:α->β) (h:∀ a ∈ l,f a = some (g a)):Qi (l.map f) = some (l.map g):=by
 induction l with
 | nil=>rfl
 | cons a r ih =>
   rw[Js,h a (by simp),Js]
   simp only[Qi]
   rw[ih fun b hb=>h b (by simp[hb])]
   rfl
def Qb7(h:QfQ hp sel):Ql2 hp sel=some (sel.map fun k=>hp.getD k default):=by
 refine Qoc sel _ _ fun k hk=>?_
 obtain⟨h1,h2⟩:=Qcu h k hk
 rw[Jm,Ja h1] at h2 |-
 simp only[Jv,Ku] at h2 |-
 rw[QaW h2]
def Qb8(h:QfQ hp sel):QiS hp sel=true:=by
 unfold QiS
 rw[JZ]
 intro k hk
 obtain⟨h1,h2⟩:=Qcu h k hk
 rw[Jm,Ja h1] at h2
 rw[Ja h1]
 simp only[Ku] at h2 |-
 rw[QZ _ _ h2]; simp
def Qm7(sel give:List Nat)(c:VCalls P g args0 h0 (QhQ kp h0 sz n T cs))(hh0:h0=sel.map fun k=>hp.getD k default)(hpl:QfQ hp sel)(hnd:sel.Nodup)(hgv:(sel.filter fun k=>!kp (sel.idxOf k))=give)(ha0:args0=args.map (DV.ren fun j=>sel.idxOf j))(ha:DV.nums.go sel.contains args=true)(hc:DV.nums.go (fun _=>false) cs=true)(h:K (.own hp.length sz 0 n) (Qgc hp give++[⟨T,true,cs⟩])):VCalls P g args hp K:=by
 subst hgv
 refine QzJ sel c hnd (by rw[Qb7 hpl,hh0]) (Qb8 hpl) ha0 ha (fun i B _ hB=>?_) hc h
 rw[hh0,Jb] at hB
 obtain⟨k,h1,h2⟩:=Qz hB
 subst h2
 exact(Qcu hpl k (K0 h1)).2
end Go.V
namespace Go.V
def Qpj (hp:Qa):DV->Option DV
 | .ptr k off=>match Qh hp k with
   | some cs=>(Qi ((cs.drop off).map (Qih 0 hp 4))).map .ip
   | none=>none
 | .ip cs=>some (.ip cs)
 | d=>QcU 0 hp d
def Qpk (hp:Qa):DV->Option DV
 | .fn f a b=>match Qi (a.map (Qpj hp)),Qi (b.map (Qpj hp)) with
   | some a',some b'=>some (.fn f a' b')
   | _,_=>none
 | .agg cs=>(Qi (cs.map (Qpj hp))).map .agg
 | d=>Qpj hp d
def QiX (hh:HeapRel w β hp) (hl:Leaves w β hp 0 (img βc [])) (hd:RelD w β hp d v) (h:Qpj hp d = some d'):RelD w βc [] d' v:=by
 unfold Qpj at h
 split at h
 ·rename_i k off
  split at h
  ·rename_i cs hb
   obtain⟨ps,h1,h2⟩:=Qz h
   subst h2
   obtain⟨g1,g2⟩:=QH h1
   cases hd with
   | ptr _ _ b hk hm =>
     obtain⟨B,C,q1,q2,q3,q4,q5,q6⟩:=Qbe hh hb hm
     have each:∀ (j:Nat) (d:PV),ps[j]?=some d->off+j<C.v.size/\RelP w (img βc []) d (C.v.getD (off+j) undef):=fun j d hj=>by
      have h3:=g2 j d hj
      rw[Jb,K6] at h3
      obtain⟨x,x1,x2⟩:=Qz h3
      have hlt:=(Jf.1 x1).1
      exact⟨by omega,Qft hh hl 4 (q6 _ _ x1).2 x2⟩
     refine .ip ps ⟨b,off,none⟩ (fun j=>C.v.getD (off+j) undef) rfl (fun j d hj=>⟨?_,?_,?_⟩) (fun j d hj=>(each j d hj).2)
     ·exact(Jh.1 q4).1
     ·exact hl.off k B b (J7 _) q1 q2 hm
     ·exact Q4 q4 (each j d hj).1
  ·cases h
 ·rename_i cs
  simp at h
  subst h
  cases hd with
  | ip _ ad val h1 h2 h3 =>
    exact .ip cs ad val h1 (fun j d hd=>⟨(h2 j d hd).1,fun x=>(h2 j d hd).2.1 (hl.sub _ x),(h2 j d hd).2.2⟩) (fun j d hd=>(h3 j d hd).mono (Jp _) (fun _ _ _=>rfl) (fun b _=>hl.sub b))
 ·exact QcA (β':=βc) (hp':=[]) hh hl (fun k hk=>absurd hk (KE _)) (J7 _) hd h
def Qek{hp:Qa}(hh:HeapRel w β hp)(hl:Leaves w β hp 0 (img βc [])){ds ds':List DV}{n:Nat}{f:Nat->Value}(hn:ds.length=n)(hd:∀ i d,ds[i]?=some d->RelD w β hp d (f i))(h:Qi (ds.map (Qpj hp))=some ds'):ds'.length=n/\∀ i d,ds'[i]?=some d->RelD w βc [] d (f i):=by
 obtain⟨h1,h2⟩:=QH h
 refine⟨by rw[h1,Jc,hn],fun i d hi=>?_⟩
 have h3:=h2 i d hi
 rw[Jb] at h3
 obtain⟨x,x1,x2⟩:=Qz h3
 exact QiX hh hl (hd i x x1) x2
def QiY (hh:HeapRel w β hp) (hl:Leaves w β hp 0 (img βc [])) (hd:RelD w β hp d v) (h:Qpk hp d = some d'):RelD w βc [] d' v:=by
 unfold Qpk at h
 split at h
 ·rename_i f a b
  split at h
  ·rename_i a' b' ha hb
   simp at h
   subst h
   cases hd with
   | fn _ _ _ vs us h1 h2 h3 h4 =>
     obtain⟨p1,p2⟩:=Qek hh hl h1 h3 ha
     obtain⟨q1,q2⟩:=Qek hh hl h2 h4 hb
     exact .fn f a' b' vs us p1 q1 p2 q2
  ·cases h
 ·rename_i cs
  obtain⟨ds,h1,h2⟩:=Qz h
  subst h2
  cases hd with
  | agg _ vs g1 g2 =>
    obtain⟨p1,p2⟩:=Qek hh hl g1 g2 h1
    exact .agg _ _ p1 p2
 ·exact QiX hh hl hd h
def VCalls.lendA{g:FuncId}{args args0:List DV}{hp:Qa}{R:DV->Prop}(ha:Qi (args.map (Qpk hp))=some args0)(c:VCalls P g args0 [] fun r h'=>h'=[]/\r.flat=true/\R r):
 VCalls P g args hp fun r h'=>h'=hp/\R r:=by
 refine⟨fun w β vs hh hr=>?_⟩
 let βc:Map:=⟨fun _=>none,β.X⟩
 have himc:∀ b,img βc [] b->β.X b:=fun b hb=>by
  rcases hb with hb | ⟨i,D,h1,_⟩
  ·exact hb
  ·simp at h1
 have hlv:Leaves w β hp 0 (img βc []):=⟨fun b hb=>.inl (himc b hb),fun k B b _ h1 h2 h3 hb=>hh.avoid k B b h1 h2 h3 (himc b hb)⟩
 have hhc:HeapRel w βc []:=⟨by simp,by simp,by simp,by simp,hh.bound⟩
 obtain⟨a1,a2⟩:=QH ha
 have hargs:RelL w βc [] args0 vs:=by
  refine⟨by rw[a1]; simpa using hr.1,fun i d hd=>?_⟩
  have h3:=a2 i d hd
  rw[Jb] at h3
  obtain⟨x,x1,x2⟩:=Qz h3
  exact QiY hh hlv (hr.2 i x x1) x2
 refine(c.run w βc vs hhc hargs).mono ?_
 rintro e w' ⟨v,r,h',β',rfl,ev,hh',hrel,rfl,hf,hR⟩
 have heap_same:∀ b,b<w.heap.size->w'.heap[b]?=w.heap[b]?:=fun b hb=>ev.same b hb (by rintro⟨k,B,h1,_⟩; simp at h1)
 have e:Evo w β hp w' β hp:=⟨ev.os,ev.tape,ev.output,ev.size,Jp _,fun _ _=>rfl,fun b hb _=>heap_same b hb,fun b C T m h=>⟨C,m,by rw[heap_same b (Jh.1 h).1]; exact h,rfl⟩,fun _ _ h=>h,rfl⟩
 refine⟨v,r,hp,β,rfl,e,?_,hrel.flat hf,rfl,hR⟩
 refine⟨fun k B b h1 h2 h3=>?_,hh.none,hh.inj,hh.avoid,fun b hb=>Jk (hh.bound b hb) ev.size⟩
 obtain⟨C,g1,g2,g3⟩:=hh.blk k B b h1 h2 h3
 exact⟨C,by rw[heap_same b (Jh.1 g1).1]; exact g1,g2,fun i d hd=>⟨(g3 i d hd).1,(g3 i d hd).2.mono e⟩⟩
def Qok(c:VCalls P g args0 [] (Ret d))(ha:Qi (args.map (Qpk hp))=some args0)(hf:d.flat=true)(h:K d hp):VCalls P g args hp K:=
 (VCalls.lendA (R:=fun r=>r=d) ha (c.mono fun r h' e=>⟨e.1,e.2.2▸hf,e.2.2⟩)).mono fun r h' e=>by obtain⟨rfl,rfl⟩:=e; exact h
def QyR(e:Enc α)(l:List α)(hk:hp[k]?=some ⟨T,true,cells e l⟩):Qpk hp (.own k e.sz 0 l.length)=some (.pv (.sl (fz e l))):=QB6 e (KE k) l hk
def QzA(hx:x=some a)(hy:y=some b):Qi [x,y]=some [a,b]:=by subst hx hy; rfl
def Qb3(e:Enc α)(l m:List α)(i:Nat):splice (cells e l) (i*e.sz) (cells e m)=cells e (l.take i++m++l.drop (i+m.length)):=by
 unfold splice
 rw[Qfy,Qo,<- Kz,Qi6,QD,QD]
def QGv(f:Fn)(a b:Option (List DV)):Option DV:=match a,b with | some a',some b'=>some (.fn f a' b') | _,_=>none
def QHQ(x:Option (List DV))(hp:Qa)(off:Nat):Option DV:=match x with | some cs=>(Qi ((cs.drop off).map (Qih 0 hp 4))).map .ip | none=>none
theorem QyS:Qpk hp (.agg cs)=(Qi (cs.map (Qpj hp))).map .agg:=rfl
theorem QuU:Qpk hp (.own k sz off len)=QcU 0 hp (.own k sz off len):=rfl
theorem QuT:Qpj hp (.own k sz off len)=QcU 0 hp (.own k sz off len):=rfl
theorem QCY:Qpk hp (.pv p)=some (.pv p):=rfl
theorem QCX:Qpj hp (.pv p)=some (.pv p):=rfl
theorem QuV:Qpk hp (.fn f a b)=QGv f (Qi (a.map (Qpj hp))) (Qi (b.map (Qpj hp))):=rfl
theorem QuR:QGv f (some a) (some b)=some (.fn f a b):=rfl
theorem QuS:Qpj hp (.ptr k off)=QHQ (Qh hp k) hp off:=rfl
theorem QuQ:QHQ (some cs) hp off=(Qi ((cs.drop off).map (Qih 0 hp 4))).map .ip:=rfl
end Go.V
namespace Go.V
def Qp7 (h:Sim O β S a w) (t:Nat) (T:TypeId) (sz:Nat) (ht:look S.tm t = .pv (.slc [])):
 ∃ β',Sim O β' ⟨S.nt,S.base,(t,.own S.hp.length sz 0 0)::S.tm,S.hp++[⟨T,true,[]⟩]⟩ a w:=by
 have e:Evo w β S.hp w (ext β S.hp.length none) (S.hp++[(⟨T,true,[]⟩:Blk)]):=by
  refine⟨rfl,rfl,rfl,Jp _,by simp,fun j hj=>QaO hj,fun _ _ _=>rfl,fun _ C _ m h=>⟨C,m,h,rfl⟩,fun b _ hb=>?_,rfl⟩
  obtain⟨j,D,g1,g2,g3⟩:=hb
  rcases KG j S.hp.length with hlt | heq | hgt
  ·rw[Jj hlt] at g1; rw[QaO hlt] at g3; exact⟨j,D,g1,g2,g3⟩
  ·subst heq; simp[ext] at g3
  ·rw[Jr (by omega),Jt (by simp; omega)] at g1; simp at g1
 refine⟨_,h.defers,h.size,fun u=>?_,Qdd h.heap rfl e (by simp) (fun _=>rfl) (fun _ _=>rfl),h.evo.trans e,h.base⟩
 simp only[look]
 split
 ·rename_i hu
  have:=h.tm t
  rw[ht] at this
  rw[<- hu]
  generalize a.tmps.getD t undef=v at this
  cases this with
  | pv _ _ hp0=>cases hp0 with
    | slc _ ad sz2 val h1 h2 h3 h4 h5=>exact .own0 _ _ ad (by simp) (by simp[ext]) trivial
 ·exact(h.tm u).mono e
def VWp.nilOwn(t:Nat)(T:TypeId)(sz:Nat)(ht:look S.tm t=.pv (.slc []))(h:VWp P c Q ⟨S.nt,S.base,(t,.own S.hp.length sz 0 0)::S.tm,S.hp++[⟨T,true,[]⟩]⟩):VWp P c Q S:=fun O β a w hs=>
 let ⟨_,h'⟩:=Qp7 hs t T sz ht
 h O _ a w h'
def VLoop.nilOwn(t:Nat)(T:TypeId)(sz:Nat)(ht:look S.tm t=.pv (.slc []))(h:VLoop P c Q ⟨S.nt,S.base,(t,.own S.hp.length sz 0 0)::S.tm,S.hp++[⟨T,true,[]⟩]⟩):VLoop P c Q S:=VWp.nilOwn t T sz ht h
end Go.V
namespace Go.V
open Go
def VCalls.wkA(c:VCalls P g (DV.wk.go args) hp R):VCalls P g args hp R:=
 ⟨fun w β vs hh ha=>c.run w β vs hh ⟨by rw [Q7,Jc]; exact ha.1,fun i d hd=>by
  rw[Q7,Jb] at hd
  obtain⟨x,h1,h2⟩:=Qz hd
  subst h2
  exact(ha.2 i x h1).wk⟩⟩
end Go.V
namespace Go.V
open Go
structure Cut(h h':Qa):Prop where
 len:h'.length=h.length
 at_:∀ (k:Nat) (B:Blk),h[k]?=some B->∃ B',h'[k]?=some B'/\B'.ty=B.ty/\B'.live=B.live/\∃ t,B.cells=B'.cells++t
def Cut.back(c:Cut h h'){k:Nat}(hk:h'[k]?=some B'):∃ B,h[k]?=some B/\B'.ty=B.ty/\B'.live=B.live/\∃ t,B.cells=B'.cells++t:=by
 have hlt:k<h.length:=by rw[<- c.len]; exact(Jf.1 hk).1
 obtain⟨B2,g1,g2⟩:=c.at_ k h[k] (Ja hlt)
 rw[hk] at g1
 cases g1
 exact⟨h[k],Ja hlt,g2⟩
def Cut.live{h h':Qa}(c:Cut h h'){β:Map}{b:Nat}:live β h' b ↔ live β h b:=by
 constructor
 ·rintro ⟨k,B,h1,h2,h3⟩
  obtain⟨B2,g1,_,g3,_⟩:=c.back h1
  exact⟨k,B2,g1,g3▸h2,h3⟩
 ·rintro ⟨k,B,h1,h2,h3⟩
  obtain⟨B2,g1,_,g3,_⟩:=c.at_ k B h1
  exact⟨k,B2,g1,g3.trans h2,h3⟩
def Cut.evo(c:Cut h h')(w:World)(β:Map):Evo w β h w β h':=
 ⟨rfl,rfl,rfl,Jp _,by rw[c.len]; exact Jp _,fun _ _=>rfl,fun _ _ _=>rfl,fun _ C _ m e=>⟨C,m,e,rfl⟩,fun _ _ l=>c.live.1 l,rfl⟩
def Cut.heap(c:Cut h h')(hh:HeapRel w β h):HeapRel w β h':=by
 refine⟨fun k B b h1 h2 h3=>?_,fun k B h1 h2 h3=>?_,fun j k B B' b h1 h2 h3 h4 h5 h6=>?_,fun k B b h1 h2 h3=>?_,hh.bound⟩
 ·obtain ⟨B2,g1,g2,g3,t,g4⟩:=c.back h1
  obtain⟨C,e1,e2,e3⟩:=hh.blk k B2 b g1 (g3▸h2) h3
  refine⟨C,g2▸e1,by rw[g4,Jd] at e2; omega,fun i d hd=>?_⟩
  have:B2.cells[i]?=some d:=by rw[g4,Jj (Jf.1 hd).1]; exact hd
  exact⟨(e3 i d this).1,(e3 i d this).2.mono (c.evo w β)⟩
 ·obtain ⟨B2,g1,g2,g3,t,g4⟩:=c.back h1
  have:=hh.none k B2 g1 (g3▸h2) h3
  rw[g4] at this
  exact(List.append_eq_nil_iff.1 this).1
 ·obtain ⟨B2,g1,_,g3,_⟩:=c.back h1
  obtain⟨B3,i1,_,i3,_⟩:=c.back h2
  exact hh.inj j k B2 B3 b g1 i1 (g3▸h3) (i3▸h4) h5 h6
 ·obtain ⟨B2,g1,_,g3,_⟩:=c.back h1
  exact hh.avoid k B2 b g1 (g3▸h2) h3
def VCalls.cut(c:VCalls P g args h R)(hr:∀ r h',R r h'->∃ h'',Cut h' h''/\R' r h''):VCalls P g args h R':=
 ⟨fun w β vs hh ha=>(c.run w β vs hh ha).mono fun _ w' ⟨v,r,h',β',e1,ev,hh',hd,hR⟩=>by
  obtain⟨h'',hc,hR'⟩:=hr r h' hR
  exact⟨v,r,h'',β',e1,ev.trans (hc.evo w' β'),hc.heap hh',hd.mono (hc.evo w' β'),hR'⟩⟩
def Cut.refl(h:Qa):Cut h h:=⟨rfl,fun k B hk=>⟨B,hk,rfl,rfl,[],by simp⟩⟩
def Cut.last(h:Qa)(T:TypeId)(b:Bool)(cs t:List DV):Cut (h++[⟨T,b,cs++t⟩]) (h++[⟨T,b,cs⟩]):=by
 refine⟨by simp,fun k B hk=>?_⟩
 rcases KG k h.length with hlt | heq | hgt
 ·rw [Jj hlt] at hk |-
  exact⟨B,hk,rfl,rfl,[],by simp⟩
 ·subst heq
  simp only[List.getElem?_concat_length,K4.injEq] at hk |-
  subst hk
  exact⟨_,rfl,rfl,rfl,t,rfl⟩
 ·rw[Jt (by simp; omega)] at hk; cases hk
def VCalls.newSl_cut(c:VCalls P g args h (QhQ kp h sz n T (cs++t))):VCalls P g args h (QhQ kp h sz n T cs):=
 c.cut fun r h' e=>by
  obtain⟨rfl,rfl⟩:=e
  exact⟨_,Cut.last _ T true cs t,rfl,rfl⟩
end Go.V
namespace Go.V
open Go
structure Gm(keep:List Nat)(S S':St):Prop where
 nt:S'.nt=S.nt
 base:S'.base=S.base
 low:∀ k,k<S.base->∃ B,S'.hp[k]?=some B/\B.live=false
 nodup:keep.Nodup
 len:S'.hp.length=S.base+keep.length
 hp:∀ (i k:Nat),keep[i]?=some k->∃ B B',S.hp[k]?=some B/\S'.hp[S.base+i]?=some B'/\B'.ty=B.ty/\B'.live=B.live/\B'.cells=B.cells.map (DV.ren fun k=>S.base+keep.idxOf k)/\(B.live=true->DV.nums.go keep.contains B.cells=true)
 tm:∀ t,V.look S'.tm t=.any\/(V.look S'.tm t=(V.look S.tm t).ren (fun k=>S.base+keep.idxOf k)/\(V.look S.tm t).nums keep.contains=true)
def Sim.gm (h:Sim O β S a w) (g:Gm keep S S'):∃ β',Sim O β' S' a w:=by
 let β':Map:=⟨fun i=>if i<S.base then β.f i else (keep[i-S.base]?).bind β.f,β.X⟩
 have hO:O.hp.length=S.base:=h.base
 have back:∀ {i:Nat} {B':Blk},S'.hp[i]?=some B'->B'.live=true->∃ k B,S.base<=i/\keep[i-S.base]?=some k/\S.hp[k]?=some B/\B'.ty=B.ty/\B'.live=B.live/\B'.cells=B.cells.map (DV.ren fun k=>S.base+keep.idxOf k)/\(B.live=true->DV.nums.go keep.contains B.cells=true)/\β'.f i=β.f k:=by
  intro i B' hi hl
  have hge:S.base<=i:=by
   rcases Uh i S.base with hlt | hge
   ·obtain ⟨B,h1,h2⟩:=g.low i hlt
    rw[hi] at h1; cases h1; rw[hl] at h2; cases h2
   ·exact hge
  have hlt:i-S.base<keep.length:=by have:=(Jf.1 hi).1; rw[g.len] at this; omega
  have hk:keep[i-S.base]?=some keep[i-S.base]:=Ja hlt
  obtain⟨B,B'',h1,h2,h3,h4,h5,h6⟩:=g.hp _ _ hk
  rw[show S.base+(i-S.base)=i by omega,hi] at h2
  cases h2
  exact⟨_,B,hge,hk,h1,h3,h4,h5,h6,by simp[β',hk]; omega⟩
 have hsub:∀ b,live β' S'.hp b->live β S.hp b:=by
  rintro b ⟨i,B',h1,h2,h3⟩
  obtain⟨k,B,_,_,k2,_,k4,_,_,k7⟩:=back h1 h2
  exact⟨k,B,k2,by rw[<- k4]; exact h2,by rw[<- k7]; exact h3⟩
 have him:∀ b,img β' S'.hp b->img β S.hp b:=fun b hb=>hb.imp id (hsub b)
 have hσ:∀ k,keep.contains k=true->k<S.hp.length->S.base+keep.idxOf k<S'.hp.length/\β'.f (S.base+keep.idxOf k)=β.f k:=by
  intro k hk _
  have hm:k∈keep:=by simpa using hk
  have hlt:=Kf hm
  refine⟨by rw[g.len]; omega,?_⟩
  have hnl:¬ S.base+List.idxOf k keep<S.base:=by omega
  simp[β',Ja hlt,hnl]
 refine⟨β',h.defers,by rw[g.nt]; exact h.size,fun t=>?_,?_,?_,h.base.trans g.base.symm⟩
 ·rcases g.tm t with e | ⟨e,hn⟩
  ·rw[e]; exact .any _
  ·rw[e]; exact RelD.ren hσ him (h.tm t) hn
 ·have hh:=h.heap
  refine⟨fun i B' b h1 h2 h3=>?_,fun i B' h1 h2 h3=>?_,fun i j B B' b h1 h2 h3 h4 h5 h6=>?_,fun i B' b h1 h2 h3=>?_,hh.bound⟩
  ·obtain ⟨k,B,_,k1,k2,k3,k4,k5,k6,k7⟩:=back h1 h2
   rw[k7] at h3
   have hl:B.live=true:=by rw[<- k4]; exact h2
   obtain⟨C,c1,c2,c3⟩:=hh.blk k B b k2 hl h3
   refine⟨C,by rw[k3]; exact c1,by rw[k5,Jc]; exact c2,fun j d hd=>?_⟩
   rw[k5,Jb] at hd
   cases hx:B.cells[j]? with
   | none=>simp[hx] at hd
   | some x =>
     simp[hx] at hd
     subst hd
     obtain⟨o1,o2⟩:=c3 j x hx
     refine⟨?_,RelD.ren hσ him o2 (DV.nums_go (k6 hl) j x hx)⟩
     cases x<;>first | rfl | exact o1
  ·obtain ⟨k,B,_,k1,k2,k3,k4,k5,k6,k7⟩:=back h1 h2
   rw[k7] at h3
   rw[k5,hh.none k B k2 (by rw[<- k4]; exact h2) h3]; rfl
  ·obtain ⟨k,D,g1,k1,k2,k3,k4,k5,k6,k7⟩:=back h1 h3
   obtain⟨k',D',g2,l1,l2,l3,l4,l5,l6,l7⟩:=back h2 h4
   rw[k7] at h5
   rw[l7] at h6
   have:=hh.inj k k' D D' b k2 l2 (by rw[<- k4]; exact h3) (by rw[<- l4]; exact h4) h5 h6
   subst this
   obtain⟨hi,e1⟩:=Jf.1 k1
   obtain⟨hj,e2⟩:=Jf.1 l1
   have:=(List.getElem_inj g.nodup).1 (e1.trans e2.symm)
   omega
  ·obtain ⟨k,B,_,k1,k2,k3,k4,k5,k6,k7⟩:=back h1 h2
   rw[k7] at h3
   exact hh.avoid k B b k2 (by rw[<- k4]; exact h2) h3
 ·have ev:=h.evo
  have hlow:∀ k,k<O.hp.length->β'.f k=β.f k:=fun k hk=>by simp[β',show k<S.base by omega]
  exact⟨ev.os,ev.tape,ev.output,ev.size,by rw[g.len]; omega,fun k hk=>(hlow k hk).trans (ev.beta k hk),ev.same,ev.shape,fun b hb hl=>ev.im b hb (hsub b hl),ev.X⟩
def QGn(n:Nat)(keep:List Nat)(tm:List (Nat×DV)):List (Nat×DV)->Prop
 | []=>True
 | (t,d)::r=>(d=(V.look tm t).ren (fun k=>n+keep.idxOf k)/\(V.look tm t).nums keep.contains=true)/\QGn n keep tm r
def Qla:∀ {tm':List (Nat × DV)},QGn n keep tm tm'->∀ t,V.look tm' t = .any\/(V.look tm' t = (V.look tm t).ren (fun k=>n + keep.idxOf k)/\(V.look tm t).nums keep.contains = true)
 | [],_,t=>.inl rfl
 | (a,d) :: r,h,t=>by
   simp only[V.look]
   split
   ·rename_i e; subst e; exact .inr h.1
   ·exact Qla h.2 t
def QDo(n:Nat)(keep:List Nat)(cs cs':List DV):Prop:=(DV.nums.go (fun _=>false) cs=true/\cs'=cs)\/(cs'=cs.map (DV.ren fun k=>n+keep.idxOf k)/\DV.nums.go keep.contains cs=true)
def QGs(n:Nat)(keep:List Nat)(hp:Qa):List Nat->Qa->Prop
 | [],[]=>True
 | k::r,B'::r'=>(∃ B,hp[k]?=some B/\B'.ty=B.ty/\B'.live=B.live/\QDo n keep B.cells B'.cells)/\QGs n keep hp r r'
 | _,_=>False
def Qph:∀ {l:List Nat} {hp':Qa},QGs n keep hp l hp'->hp'.length = l.length/\∀ (i k:Nat),l[i]? = some k->∃ B B',hp[k]? = some B/\hp'[i]? = some B'/\B'.ty = B.ty/\B'.live = B.live/\B'.cells = B.cells.map (DV.ren fun k=>n + keep.idxOf k)/\(B.live = true->DV.nums.go keep.contains B.cells = true)
 | [],[],_=>⟨rfl,fun i k h=>by simp at h⟩
 | [],_::_,h=>h.elim
 | _::_,[],h=>h.elim
 | k0 :: r,B' :: r',h=>by
   obtain⟨⟨B,h1,h2,h3,h4⟩,h5⟩:=h
   obtain⟨g1,g2⟩:=Qph h5
   refine⟨by simp[g1],fun i k hk=>?_⟩
   cases i with
   | zero =>
     simp at hk
     subst hk
     refine⟨B,B',h1,rfl,h2,h3,?_⟩
     rcases h4 with⟨n,e⟩ | ⟨e,n⟩
     ·exact⟨by rw[e,<- DV.ren_go,QaK _ _ n],fun _=>QZ _ _ n⟩
     ·exact⟨e,fun _=>n⟩
   | succ i=>exact g2 i k (by simpa using hk)
def QhC:List TypeId->Qa:=List.map fun T=>⟨T,false,[]⟩
def VWp.move(keep:List Nat)(Ts:List TypeId)(tm':List (Nat×DV))(hp':Qa)(hb:Ts.length=S.base)(hn:keep.Nodup)(hh:QGs S.base keep S.hp keep hp')(ht:QGn S.base keep S.tm tm')(h:VWp P c Q ⟨S.nt,S.base,tm',QhC Ts++hp'⟩):VWp P c Q S:=fun O β a w hs=>by
 obtain⟨g1,g2⟩:=Qph hh
 have hl:(QhC Ts).length=S.base:=by simp[QhC,hb]
 obtain⟨β',h'⟩:=hs.gm (keep:=keep) (S':=⟨S.nt,S.base,tm',QhC Ts++hp'⟩) ⟨rfl,rfl,fun k hk=>by
  have hlt:k<(QhC Ts).length:=by omega
  refine⟨(QhC Ts)[k],by show(QhC Ts++hp')[k]?=_; rw[Jj hlt,Ja hlt],by simp[QhC]⟩,hn,by show(QhC Ts++hp').length=_; rw[Jd,hl,g1],fun i k hk=>by
  obtain⟨B,B',e1,e2,e3⟩:=g2 i k hk
  exact⟨B,B',e1,by show(QhC Ts++hp')[S.base+i]?=_; rw[Jr (by omega),hl,show S.base+i-S.base=i by omega]; exact e2,e3⟩,Qla ht⟩
 exact h O β' a w h'
def VLoop.move(keep:List Nat)(Ts:List TypeId)(tm':List (Nat×DV))(hp':Qa)(hb:Ts.length=S.base)(hn:keep.Nodup)(hh:QGs S.base keep S.hp keep hp')(ht:QGn S.base keep S.tm tm')(h:VLoop P c Q ⟨S.nt,S.base,tm',QhC Ts++hp'⟩):VLoop P c Q S:=VWp.move keep Ts tm' hp' hb hn hh ht h
end Go.V
namespace Go.V
open Go
def QGp(n:Nat)(hp:Qa)(tm:List (Nat×DV)):List (Nat×DV)->Prop
 | []=>True
 | (t,d)::r=>frz n hp (V.look tm t)=some d/\QGp n hp tm r
def QgQ:∀ {tm':List (Nat × DV)},QGp n hp tm tm'->∀ t,V.look tm' t = .any\/frz n hp (V.look tm t) = some (V.look tm' t)
 | [],_,t=>.inl rfl
 | (a,d) :: r,h,t=>by
   simp only[V.look]
   split
   ·rename_i e; subst e; exact .inr h.1
   ·exact QgQ h.2 t
structure Fz(S S':St):Prop where
 nt:S'.nt=S.nt
 base:S'.base=S.base
 hp:QbB S.base S.hp=some S'.hp
 tm:QGp S.base S.hp S.tm S'.tm
def Sim.fz(h:Sim O β S a w)(g:Fz S S'):Sim O β S' a w:=by
 have hn:S.base<=S.hp.length:=by rw[<- h.base]; exact h.evo.len
 have one:∀ {d:DV} {v:Value} {d':DV},RelD w β S.hp d v->frz S.base S.hp d=some d'->RelD w β S'.hp d' v/\HeapRel w β S'.hp/\S'.hp.length=S.base/\∀ b,live β S'.hp b->live β S.hp b:=by
  intro d v d' hd hf
  obtain⟨e,hp',⟨r1,r2⟩,k2,k3,k4,k5⟩:=QdA h.heap hn hd (R:=fun e hp'=>e=d'/\hp'=S'.hp) (by unfold Qv9; rw[hf,g.hp]; exact⟨rfl,rfl⟩)
  subst r1 r2
  exact⟨k2,k3,k4,k5⟩
 obtain⟨_,k3,k4,k5⟩:=one (d:=.any) (v:=undef) (d':=.any) (.any _) rfl
 refine⟨h.defers,by rw[g.nt]; exact h.size,fun t=>?_,k3,?_,h.base.trans g.base.symm⟩
 ·rcases QgQ g.tm t with e | e
  ·rw[e]; exact .any _
  ·exact(one (h.tm t) e).1
 ·have ev:=h.evo
  exact⟨ev.os,ev.tape,ev.output,ev.size,by rw[k4,<- h.base]; exact Jp _,ev.beta,ev.same,ev.shape,fun b hb hl=>ev.im b hb (k5 b hl),ev.X⟩
def VWp.fz(S':St)(g:Fz S S')(h:VWp P c Q S'):VWp P c Q S:=fun O β a w hs=>h O β a w (hs.fz g)
def VLoop.fz(S':St)(g:Fz S S')(h:VLoop P c Q S'):VLoop P c Q S:=VWp.fz S' g h
end Go.V
namespace Go.V
open Go
def VCalls.giveA{g:FuncId}{args args0:List DV}{hp:Qa}{R:DV->Prop}(ha:Qi (args.map (Qpk hp))=some args0)(c:VCalls P g args0 [] fun r h'=>h'=[]/\r.nums (fun _=>false)=true/\R r):
 VCalls P g args hp fun r h'=>h'=hp.map (fun B=>⟨B.ty,false,[]⟩)/\R r:=by
 refine⟨fun w β vs hh hr=>?_⟩
 let βc:Map:=⟨fun _=>none,β.X⟩
 have himc:∀ b,img βc [] b->β.X b:=fun b hb=>by
  rcases hb with hb | ⟨i,D,h1,_⟩
  ·exact hb
  ·simp at h1
 have hlv:Leaves w β hp 0 (img βc []):=⟨fun b hb=>.inl (himc b hb),fun k B b _ h1 h2 h3 hb=>hh.avoid k B b h1 h2 h3 (himc b hb)⟩
 have hhc:HeapRel w βc []:=⟨by simp,by simp,by simp,by simp,hh.bound⟩
 obtain⟨a1,a2⟩:=QH ha
 have hargs:RelL w βc [] args0 vs:=by
  refine⟨by rw[a1]; simpa using hr.1,fun i d hd=>?_⟩
  have h3:=a2 i d hd
  rw[Jb] at h3
  obtain⟨x,x1,x2⟩:=Qz h3
  exact QiY hh hlv (hr.2 i x x1) x2
 refine(c.run w βc vs hhc hargs).mono ?_
 rintro e w' ⟨v,r,h',β',rfl,ev,hh',hrel,rfl,hf,hR⟩
 have heap_same:∀ b,b<w.heap.size->w'.heap[b]?=w.heap[b]?:=fun b hb=>ev.same b hb (by rintro⟨k,B,h1,_⟩; simp at h1)
 have dead:∀ (k:Nat) (B:Blk),(hp.map (fun B=>(⟨B.ty,false,[]⟩:Blk)))[k]?=some B->B.live=false:=fun k B hk=>by
  rw[Jb] at hk
  obtain⟨x,_,x2⟩:=Qz hk
  subst x2; rfl
 have nolive:∀ b,¬ live β (hp.map (fun B=>(⟨B.ty,false,[]⟩:Blk))) b:=by
  rintro b ⟨k,B,h1,h2,_⟩
  rw[dead k B h1] at h2; cases h2
 have e:Evo w β hp w' β (hp.map (fun B=>⟨B.ty,false,[]⟩)):=⟨ev.os,ev.tape,ev.output,ev.size,by simp,fun _ _=>rfl,fun b hb _=>heap_same b hb,fun b C T m h=>⟨C,m,by rw[heap_same b (Jh.1 h).1]; exact h,rfl⟩,fun b _ h=>absurd h (nolive b),rfl⟩
 refine⟨v,r,_,β,rfl,e,?_,hrel.closed hf ?_,rfl,hR⟩
 ·refine ⟨fun k B b h1 h2 h3=>?_,fun k B h1 h2 h3=>?_,fun i j B B' b h1 h2 h3=>?_,fun k B b h1 h2 h3=>?_,fun b hb=>Jk (hh.bound b hb) ev.size⟩
  ·rw[dead k B h1] at h2; cases h2
  ·rw[dead k B h1] at h2; cases h2
  ·rw[dead i B h1] at h3; cases h3
  ·rw[dead k B h1] at h2; cases h2
 ·rintro b (hb | hb)
  ·exact .inl (by rw[ev.X]; exact hb)
  ·exact absurd hb (nolive b)
def QfY(hlt:∀ k∈sel,k<hp.length):QW hp sel ((sel.map fun k=>hp.getD k default).map (fun B=>⟨B.ty,false,[]⟩))=Qgc hp sel:=by
 unfold QW
 rw[JR (by simp),KR,Kg]
 apply Ki
 intro k
 rw[Qpa,Jb]
 by_cases hk:k<hp.length
 ·rw [KD hk,Jv]
  have hget:hp[k]?=some hp[k]:=Ja hk
  by_cases hm:k∈sel
  ·have hc:sel.contains k = true:=by simpa using hm
   have hi:=Kf hm
   rw[if_pos hc,if_pos hm,hget,Jv]
   congr 1
   rw[Jm,Jb,Jb,Ja hi]
   simp[QcV,hget]
  ·have hc:sel.contains k = false:=by simpa using hm
   rw[if_neg (by rw[hc]; simp),if_neg hm,Jm,hget]; rfl
 ·rw [Jt (l:=JC hp.length) (by simpa using hk),Jt (l:=hp) (by omega)]
  simp
def Qa6(sel:List Nat)(args1:List DV)(h0:Qa)(c:VCalls P g args0 [] (Ret d))(hh0:h0=sel.map fun k=>hp.getD k default)(hpl:QfQ hp sel)(hnd:sel.Nodup)(ha1:args1=args.map (DV.ren fun j=>sel.idxOf j))(ha:DV.nums.go sel.contains args=true)(hf:Qi (args1.map (Qpk h0))=some args0)(h:K d (Qgc hp sel)):VCalls P g args hp K:=by
 subst hh0
 have c1:=VCalls.giveA (R:=fun r=>r.nums (fun _=>false)=true/\r=d) hf (c.mono fun r h' e=>⟨e.1,e.2.1,e.2⟩)
 refine(VCalls.frame sel hnd (Qb7 hpl) (Qb8 hpl) c1 ha1 ha).mono ?_
 rintro r h2 ⟨r0,h',⟨rfl,hn,rfl⟩,_,rfl,rfl⟩
 rw[QfY fun k hk=>(Qcu hpl k hk).1,Qd5 _ _ hn]
 exact h
end Go.V
namespace Go.V
open Go
def Qox(h:Sim O β S a w)(hk:S.hp[k]?=some B)(hd:B.cells[j]?=some d)(h1:d'.one=true)(hr:∀ v,RelD w β S.hp d v->RelD w β S.hp d' v):
 Sim O β ⟨S.nt,S.base,S.tm,S.hp.set k ⟨B.ty,B.live,B.cells.set j d'⟩⟩ a w:=by
 have hlt:k<S.hp.length:=(Jf.1 hk).1
 have at_:∀ {i:Nat} {D:Blk},(S.hp.set k ⟨B.ty,B.live,B.cells.set j d'⟩)[i]?=some D->∃ D0,S.hp[i]?=some D0/\D.ty=D0.ty/\D.live=D0.live/\D.cells.length=D0.cells.length/\(D=D0\/(i=k/\D0=B/\D.cells=B.cells.set j d')):=by
  intro i D hi
  rw[JD] at hi
  split at hi
  ·rename_i e
   subst e
   simp[hlt] at hi
   subst hi
   exact⟨B,hk,rfl,rfl,by simp,.inr ⟨rfl,rfl,rfl⟩⟩
  ·exact⟨D,hi,rfl,rfl,rfl,.inl rfl⟩
 have lv:∀ b,live β (S.hp.set k ⟨B.ty,B.live,B.cells.set j d'⟩) b->live β S.hp b:=by
  rintro b ⟨i,D,g1,g2,g3⟩
  obtain⟨D0,e1,_,e3,_⟩:=at_ g1
  exact⟨i,D0,e1,e3▸g2,g3⟩
 have e:Evo w β S.hp w β (S.hp.set k ⟨B.ty,B.live,B.cells.set j d'⟩):=
  ⟨rfl,rfl,rfl,Jp _,by simp,fun _ _=>rfl,fun _ _ _=>rfl,fun _ C _ m h=>⟨C,m,h,rfl⟩,fun b _ hb=>lv b hb,rfl⟩
 have hh:=h.heap
 refine⟨h.defers,h.size,fun t=>(h.tm t).mono e,?_,h.evo.trans e,h.base⟩
 refine⟨fun i D b g1 g2 g3=>?_,fun i D g1 g2 g3=>?_,fun i i2 D D2 b g1 g2 g3 g4 g5 g6=>?_,fun i D b g1 g2 g3=>?_,hh.bound⟩
 ·obtain ⟨D0,e1,e2,e3,e4,e5⟩:=at_ g1
  obtain⟨C,c1,c2,c3⟩:=hh.blk i D0 b e1 (e3▸g2) g3
  refine⟨C,e2▸c1,by rw[e4]; exact c2,fun n x hx=>?_⟩
  rcases e5 with rfl | ⟨rfl,rfl,e6⟩
  ·exact⟨(c3 n x hx).1,(c3 n x hx).2.mono e⟩
  ·rw [e6,JD] at hx
   split at hx
   ·rename_i en
    subst en
    have hjl:j<D0.cells.length:=(Jf.1 hd).1
    simp[hjl] at hx
    subst hx
    exact⟨h1,(hr _ (c3 j d hd).2).mono e⟩
   ·exact⟨(c3 n x hx).1,(c3 n x hx).2.mono e⟩
 ·obtain ⟨D0,e1,e2,e3,e4,e5⟩:=at_ g1
  have:=hh.none i D0 e1 (e3▸g2) g3
  rw[this] at e4
  exact List.length_eq_zero_iff.1 e4
 ·obtain ⟨D0,e1,e2,e3,_⟩:=at_ g1
  obtain⟨D1,f1,f2,f3,_⟩:=at_ g2
  exact hh.inj i i2 D0 D1 b e1 f1 (e3▸g3) (f3▸g4) g5 g6
 ·obtain ⟨D0,e1,e2,e3,_⟩:=at_ g1
  exact hh.avoid i D0 b e1 (e3▸g2) g3
def VWp.nilOwnC (k j:Nat) (T:TypeId) (sz:Nat) (hk:S.hp[k]? = some B) (hd:B.cells[j]? = some (.pv (.slc []))) (h:VWp P c Q ⟨S.nt,S.base,S.tm,(S.hp ++ [(⟨T,true,[]⟩:Blk)]).set k ⟨B.ty,B.live,B.cells.set j (.own S.hp.length sz 0 0)⟩⟩):VWp P c Q S:=fun O β a w hs=>by
 have e:Evo w β S.hp w (ext β S.hp.length none) (S.hp++[(⟨T,true,[]⟩:Blk)]):=by
  refine⟨rfl,rfl,rfl,Jp _,by simp,fun j hj=>QaO hj,fun _ _ _=>rfl,fun _ C _ m h=>⟨C,m,h,rfl⟩,fun b _ hb=>?_,rfl⟩
  obtain⟨j,D,g1,g2,g3⟩:=hb
  rcases KG j S.hp.length with hlt | heq | hgt
  ·rw[Jj hlt] at g1; rw[QaO hlt] at g3; exact⟨j,D,g1,g2,g3⟩
  ·subst heq; simp[ext] at g3
  ·rw[Jr (by omega),Jt (by simp; omega)] at g1; simp at g1
 have h2:Sim O (ext β S.hp.length none) ⟨S.nt,S.base,S.tm,S.hp++[⟨T,true,[]⟩]⟩ a w:=
  ⟨hs.defers,hs.size,fun u=>(hs.tm u).mono e,Qdd hs.heap rfl e (by simp) (fun _=>rfl) (fun _ _=>rfl),hs.evo.trans e,hs.base⟩
 have hlt:k<S.hp.length:=(Jf.1 hk).1
 refine h O _ a w (Qox h2 (k:=k) (j:=j) (B:=B) (d:=.pv (.slc [])) (d':=.own S.hp.length sz 0 0) (by show(S.hp++_)[k]?=_; rw[Jj hlt]; exact hk) hd rfl ?_)
 intro v hv
 cases hv with
 | pv _ _ hp0=>cases hp0 with
   | slc _ ad sz2 val g1 g2 g3 g4 g5=>exact .own0 _ _ ad (by simp) (by simp[ext]) trivial
def VLoop.nilOwnC(k j:Nat)(T:TypeId)(sz:Nat)(hk:S.hp[k]?=some B)(hd:B.cells[j]?=some (.pv (.slc [])))(h:VLoop P c Q ⟨S.nt,S.base,S.tm,(S.hp++[(⟨T,true,[]⟩:Blk)]).set k ⟨B.ty,B.live,B.cells.set j (.own S.hp.length sz 0 0)⟩⟩):VLoop P c Q S:=VWp.nilOwnC k j T sz hk hd h
end Go.V
namespace Go.V
open Go
def Blk.wk(B:Blk):Blk:=⟨B.ty,B.live,DV.wk.go B.cells⟩
def Qna(tm:List (Nat×DV)):List (Nat×DV):=tm.map fun p=>(p.1,p.2.wk)
def QfT(hp:Qa):Qa:=hp.map Blk.wk
def DV.wk_one(d:DV)(h:d.one=true):d.wk.one=true:=by
 cases d<;>first | rfl | (simp[DV.one] at h)
def Qub:∀ (tm:List (Nat × DV)) (t:Nat),look (Qna tm) t = (look tm t).wk
 | [],_=>rfl
 | (u,d) :: r,t=>by
   simp only[Qna,Js,look]
   split
   ·rfl
   ·exact Qub r t
def Qlp(h:Sim O β S a w):Sim O β ⟨S.nt,S.base,Qna S.tm,QfT S.hp⟩ a w:=by
 have at_:∀ {i:Nat} {D:Blk},(QfT S.hp)[i]?=some D->∃ D0,S.hp[i]?=some D0/\D=D0.wk:=by
  intro i D hi
  rw[QfT,Jb] at hi
  obtain⟨x,h1,h2⟩:=Qz hi
  exact⟨x,h1,h2.symm⟩
 have lv:∀ b,live β (QfT S.hp) b->live β S.hp b:=by
  rintro b ⟨i,D,g1,g2,g3⟩
  obtain⟨D0,e1,rfl⟩:=at_ g1
  exact⟨i,D0,e1,g2,g3⟩
 have e:Evo w β S.hp w β (QfT S.hp):=
  ⟨rfl,rfl,rfl,Jp _,by simp[QfT],fun _ _=>rfl,fun _ _ _=>rfl,fun _ C _ m h=>⟨C,m,h,rfl⟩,fun b _ hb=>lv b hb,rfl⟩
 have hh:=h.heap
 refine⟨h.defers,h.size,fun t=>by show RelD w β (QfT S.hp) (look (Qna S.tm) t) _; rw[Qub]; exact((h.tm t).mono e).wk,?_,h.evo.trans e,h.base⟩
 refine⟨fun i D b g1 g2 g3=>?_,fun i D g1 g2 g3=>?_,fun i i2 D D2 b g1 g2 g3 g4 g5 g6=>?_,fun i D b g1 g2 g3=>?_,hh.bound⟩
 ·obtain ⟨D0,e1,rfl⟩:=at_ g1
  obtain⟨C,c1,c2,c3⟩:=hh.blk i D0 b e1 g2 g3
  refine⟨C,c1,by show(DV.wk.go D0.cells).length<=_; rw[Q7,Jc]; exact c2,fun n x hx=>?_⟩
  have hx2:(DV.wk.go D0.cells)[n]?=some x:=hx
  rw[Q7,Jb] at hx2
  obtain⟨y,h1,h2⟩:=Qz hx2
  subst h2
  exact⟨DV.wk_one _ (c3 n y h1).1,((c3 n y h1).2.mono e).wk⟩
 ·obtain ⟨D0,e1,rfl⟩:=at_ g1
  have:=hh.none i D0 e1 g2 g3
  show DV.wk.go D0.cells=[]
  rw[this]; rfl
 ·obtain ⟨D0,e1,rfl⟩:=at_ g1
  obtain⟨D1,f1,rfl⟩:=at_ g2
  exact hh.inj i i2 D0 D1 b e1 f1 g3 g4 g5 g6
 ·obtain ⟨D0,e1,rfl⟩:=at_ g1
  exact hh.avoid i D0 b e1 g2 g3
def VWp.wkS(h:VWp P c Q ⟨S.nt,S.base,Qna S.tm,QfT S.hp⟩):VWp P c Q S:=fun O β a w hs=>h O β a w (Qlp hs)
def VLoop.wkS(h:VLoop P c Q ⟨S.nt,S.base,Qna S.tm,QfT S.hp⟩):VLoop P c Q S:=VWp.wkS h
end Go.V
namespace Go.V
open Go
structure FzN(n:Nat)(S S':St):Prop where
 nt:S'.nt=S.nt
 base:S'.base=S.base
 lo:S.base<=n
 hi:n<=S.hp.length
 hp:QbB n S.hp=some S'.hp
 tm:QGp n S.hp S.tm S'.tm
def Sim.fzN(h:Sim O β S a w)(g:FzN n S S'):Sim O β S' a w:=by
 have one:∀ {d:DV} {v:Value} {d':DV},RelD w β S.hp d v->frz n S.hp d=some d'->RelD w β S'.hp d' v/\HeapRel w β S'.hp/\S'.hp.length=n/\∀ b,live β S'.hp b->live β S.hp b:=by
  intro d v d' hd hf
  obtain⟨e,hp',⟨r1,r2⟩,k2,k3,k4,k5⟩:=QdA h.heap g.hi hd (R:=fun e hp'=>e=d'/\hp'=S'.hp) (by unfold Qv9; rw[hf,g.hp]; exact⟨rfl,rfl⟩)
  subst r1 r2
  exact⟨k2,k3,k4,k5⟩
 obtain⟨_,k3,k4,k5⟩:=one (d:=.any) (v:=undef) (d':=.any) (.any _) rfl
 refine⟨h.defers,by rw[g.nt]; exact h.size,fun t=>?_,k3,?_,h.base.trans g.base.symm⟩
 ·rcases QgQ g.tm t with e | e
  ·rw[e]; exact .any _
  ·exact(one (h.tm t) e).1
 ·have ev:=h.evo
  exact⟨ev.os,ev.tape,ev.output,ev.size,by rw[k4]; have:=h.base; have:=g.lo; omega,ev.beta,ev.same,ev.shape,fun b hb hl=>ev.im b hb (k5 b hl),ev.X⟩
def QzC(S S':St):Prop:=Qro S S'\/∃ n S1,Qro S S1/\FzN n S1 S'
def Sim.weakN(h:Sim O β S a w)(g:QzC S S'):∃ β',Sim O β' S' a w:=by
 rcases g with g | ⟨n,S1,g1,g2⟩
 ·exact h.weak g
 ·obtain ⟨β',h'⟩:=h.weak g1
  exact⟨β',h'.fzN g2⟩
def VWp.weakN(S':St)(g:QzC S S')(h:VWp P c Q S'):VWp P c Q S:=fun O β a w hs=>
 let ⟨β',hs'⟩:=hs.weakN g
 h O β' a w hs'
def QD7 {c:Code} {Q:Exit->St->Prop} {ι:Type} (I:ι->St) (μ:ι->Nat) (i₀:ι) (h₀:QzC S (I i₀)) (round:∀ i,QC P c (Qag Q fun S'=>∃ j,μ j < μ i/\QzC S' (I j)) (I i)):VLoop P c Q S:=by
 intro O β a w hs b k cs
 have key:∀ n β i a w,μ i = n->Sim O β (I i) a w ->
  ∃ e a' w',Ql1 O Q e a' w'/\Arrives P (lone (b.at a (.code c::.inLoop c::k)) cs w) b k cs e a' w':=by
  intro n
  induction n using KF with
  | _ n ih =>
    intro β i a w hn hs
    obtain⟨e,a₁,w₁,hq,harr⟩:=QA c _ _ (round i) O β a w hs b (.inLoop c::k) cs
    obtain⟨β₁,S₁,hs₁,hq⟩:=hq
    cases e with
    | normal =>
      obtain⟨j,hlt,hle⟩:=hq
      obtain⟨β₂,hs₂⟩:=hs₁.weakN hle
      obtain⟨e₂,a₂,w₂,hq₂,harr₂⟩:=ih (μ j) (hn▸hlt) β₂ j a₁ w₁ rfl hs₂
      exact⟨e₂,a₂,w₂,hq₂,.of_steps (Steps.trans harr (.one step_inLoop)) harr₂⟩
    | exit id=>exact⟨_,a₁,w₁,⟨β₁,S₁,hs₁,hq⟩,.pass (x:=.inLoop c) rfl (fun _ _=>.inl (by simp)) harr⟩
    | goto l=>exact⟨_,a₁,w₁,⟨β₁,S₁,hs₁,hq⟩,.pass (x:=.inLoop c) rfl (fun _ _=>.inl (by simp)) harr⟩
    | ret=>exact⟨_,a₁,w₁,⟨β₁,S₁,hs₁,hq⟩,.pass (x:=.inLoop c) rfl (fun _ _=>.inl (by simp)) harr⟩
    | panic ch=>exact⟨_,a₁,w₁,⟨β₁,S₁,hs₁,hq⟩,.pass (x:=.inLoop c) rfl (fun _ _=>.inl (by simp)) harr⟩
    | outgrown=>exact⟨_,a₁,w₁,⟨β₁,S₁,hs₁,hq⟩,.pass (x:=.inLoop c) rfl (fun _ _=>.inl (by simp)) harr⟩
 obtain⟨β₀,hs₀⟩:=hs.weakN h₀
 obtain⟨e,a',w',hq,harr⟩:=key _ β₀ i₀ a w rfl hs₀
 exact⟨e,a',w',hq,.of_steps (.one step_loop) harr⟩
end Go.V
namespace Go.V
def Qhn(h:n<=140737488355328):(n<=140737488355328)=True:=eq_true h
end Go.V
namespace Go.V
def Qjg(e:Enc α)(l:List α)(T:TypeId)(a b:Nat)(h:a<=b/\b<=l.length):Qri (some (none,T,e.sz)) (fz e l) a b=some (.pv (.sl (fz e ((l.take b).drop a)))):=by
 have h1:fz e l=[]\/(fz e l)[0]?.map Ky=some e.sz:=by
  cases l with
  | nil=>exact .inl rfl
  | cons x r=>exact .inr (Qmi e (x::r) (by simp))
 simp only[Qri]
 rw[if_pos ⟨h.1,by rw[Qmh]; exact h.2,h1⟩,QuN,QCP]
end Go.V
namespace Go.V
def QfU(e:Enc α)(l:List α):(fz e l=[]\/(fz e l)[0]?.map Ky=some e.sz)=True:=by
 refine eq_true ?_
 cases l with
 | nil=>exact .inl rfl
 | cons x r=>exact .inr (Qmi e (x::r) (by simp))
def Qbk(n:Nat):((n:Int)+1).toNat=n+1:=by omega
def QaV(n:Nat):((n:Int)-1).toNat=n-1:=by omega
end Go.V
namespace Go.V
open Go
attribute [go_sem ↓] Quc QAL QAM Qwt QAS QvB Qn6 QvE Qze Qq1 QvC QvD Qzf Qhb QlO Qj2 Qh9 QnB QlP QrH QsV QsR Qqg QsU QsT QsS QBq QwI Qy8 Qy5 Qvn Qy7 Qy6 QvF QpE QwN Qsh QkL QrL Qyx QAw Qwn QAy
attribute [go_sem] Qwy Qk1 QnD Qu5 QpN Qh0 Qj5 Qn0 Qwx Qk0 QnC Qu4 QrT Qjx QAG Qm6 QrR Qjv QlS QqO QhW Qes Qwz Qk2 QnE QrN Qjr QlQ QkM Qf6 Qhd Qkn QrS Qjw QlT QqP Qww QkZ Qu3 QmX QgK Qia QkN Qf7 Qjk Qff QrO Qjs QlR Qjm Qfh Qgb Qij QrQ Qju Qjl Qfg Qga Qii QrP Qjt QmW QgJ Qmm Qu6 QqL Qmn QqM Qu7 Qqv QmY QgL Qjq QAX QtQ Qx5 QDk QC0 Qzp Qzs Qzq Qzr QwB QrU Qur Qsd Qsc Qzt QDn Qzh Qzc Qyc QwA QpM Qw1 QsB QsC Qw2 QsE QsA Qw3 QsD Qry QtZ QtY Qqq QFt QyZ QC9 QnG QlU Qib Qj6 Qhf Qx1 Qx2 QHm Qu9 Qva QqF QqE Qr4 QwF Qr3 QCT QFo Qp2 QCS QCR QyP QCU QyO QCZ QyT Qob QfZ Qmk QBO QBN Qwu QrK Qym QCj QAO QAP QwD QwE QsF QAu QAv Qzn Qzo Qxa Qxb QFN Qzz Qsj Qre Qod QEU QB7 QEV Qvd Qr8 QyY Qr9 QqR QwG Qwv QAF QyD QkP QuE Qr2 QuD Qr1 QuA Qr0 Quz QrZ QDv QDu QCI QCw QCB QCH QFf QCv QCG QCA QCC QCD QCE QCF QCz QCy QCx Qdb QBe QBc QEl QEk QC7 QE8 QD8 QCo QCp QCn QAK QFQ QvR QDC QDD QFV QFU Qp0 Qwo QFR Qzj QEe QFC QFD QFE QFF Qyo Qp5 Qln Qlm QjH QjG QgU Qll QpG QrB QpI QrE QpH QDx QFO QFP QtV Qqu Qy0 Qve QB9 Qye Qt2 QB8 Qzd QAW QFv Qr5 QpU QpV QHn Qw9 QsH QnW QqJ Qnk Qnj Qlk Qlj Qh5 QrC QrA QDw QA1 QA0 QB3 QB2 QtP pvs List.flatten_nil KR QcE Qk5 Qf4 Qbi Qlo QmV QAZ Qec Qsa Qew QgH Qw7 QHe QrY V.kill Qgc QA2 List.toList_toArray List.getElem?_cons_zero KN List.getElem?_nil Je Jg Js KQ KS Kg K2 List.take_zero List.take_nil K3 Kl List.drop_nil List.set_cons_zero List.set_cons_succ List.any_nil List.any_cons Jv Option.map_none Kv Ku Option.getD_none Ke Int.toNat_natCast JA Nat.add_zero Uf Uk KM decide_true decide_false true_and and_true and_self false_and and_false true_or or_true or_false false_or or_self not_true_eq_false not_false_eq_true ne_eq Kj Kd Bool.or_true Bool.true_or Bool.or_false Bool.false_or Bool.and_true Bool.true_and Bool.and_false Bool.false_and Bool.or_self Bool.and_self Bool.not_not QDy QDz cond_true cond_false Bool.cond_self beq_self_eq_true Nat.lt_irrefl Jp Qrz QAx Qx8 QtT Qqr Qvu QqW Qvw Qvx Qvy Qmw Qv3 Qrf Qoe Qqc Qnl Op.operands Qx4 QyQ QCV QFp Qmh QdW QdU QvJ Ji QdV QnV QHU DV.wk DV.wk.go PV.wk QH1 QyS QuU QuT QCY QCX QuV QuR QuS QuQ QmR QpC QHf QHg Quw Qux Quu Quv Ret DV.nums DV.nums.go
end Go.V
namespace Go.V
def polyB:BitVec 32:=2197175160#32
def rb(r:BitVec 32):BitVec 32:=(r >>> 1) ^^^ (if r.getLsbD 0=true then polyB else 0#32)
def rbN:Nat->BitVec 32->BitVec 32
 | 0,r=>r
 | n+1,r=>rb (rbN n r)
def QEO(x y:BitVec 32):rb (x ^^^ y)=rb x ^^^ rb y:=by
 apply BitVec.eq_of_getLsbD_eq
 intro i hi
 simp only[rb,BitVec.getLsbD_xor,BitVec.getLsbD_ushiftRight]
 cases x.getLsbD 0<;>cases y.getLsbD 0<;>simp<;>cases x.getLsbD (1+i)<;>cases y.getLsbD (1+i)<;>cases polyB.getLsbD i<;>rfl
def QBV(n:Nat)(x y:BitVec 32):rbN n (x ^^^ y)=rbN n x ^^^ rbN n y:=by
 induction n with
 | zero=>rfl
 | succ n ih=>simp only[rbN,ih,QEO]
def QBX(m n:Nat)(x:BitVec 32):rbN (m+n) x=rbN m (rbN n x):=by
 induction m with
 | zero=>simp[rbN]
 | succ m ih=>rw[K5]; simp only[rbN,ih]
def QBW (n:Nat) (x:BitVec 32) (h:∀ i,i < n->x.getLsbD i = false):rbN n x = x >>> n:=by
 induction n with
 | zero=>simp[rbN]
 | succ n ih =>
   rw[rbN,ih (fun i hi=>h i (by omega)),rb]
   have e:(x >>> n).getLsbD 0=false:=by rw[BitVec.getLsbD_ushiftRight]; exact h _ (by omega)
   rw[e]
   simp[BitVec.shiftRight_add]
def b32(b:UInt8):BitVec 32:=b.toBitVec.setWidth 32
def cb(r:BitVec 32)(b:UInt8):BitVec 32:=rbN 8 (r ^^^ b32 b)
def le:List UInt8->BitVec 32
 | []=>0#32
 | b::l=>b32 b ^^^ (le l <<< 8)
def QBh(x:BitVec 32)(n:Nat)(h:∀ i,32-n<=i->x.getLsbD i=false)(hn:n<=32):rbN n (x <<< n)=x:=by
 rw[QBW _ _ (fun i hi=>by simp[BitVec.getLsbD_shiftLeft,hi])]
 apply BitVec.eq_of_getLsbD_eq
 intro i hi
 simp only[BitVec.getLsbD_ushiftRight,BitVec.getLsbD_shiftLeft]
 by_cases h1:n+i<32
 ·simp[h1]
 ·simp[h1]; rw[h i (by omega)]
def Qc0(b:BitVec 32):IntKind.u32.wrap (b.toNat:Int)=(b.toNat:Int):=by
 have:=b.isLt
 simp[IntKind.wrap,IntKind.signed,IntKind.bits]; omega
def QeM(x:BitVec 32):BitVec.ofInt 32 (x.toNat:Int)=x:=by
 apply BitVec.eq_of_toNat_eq
 have:=x.isLt
 simp
def Qrr(x y:BitVec 32):bits .xor .u32 (x.toNat:Int) (y.toNat:Int)=((x ^^^ y).toNat:Int):=by
 show IntKind.u32.wrap ((BitVec.ofInt 32 (x.toNat:Int) ^^^ BitVec.ofInt 32 (y.toNat:Int)).toNat:Int)=_
 rw[QeM,QeM,Qc0]
def QFW(x y:BitVec 32):bits .and .u32 (x.toNat:Int) (y.toNat:Int)=((x &&& y).toNat:Int):=by
 show IntKind.u32.wrap ((BitVec.ofInt 32 (x.toNat:Int) &&& BitVec.ofInt 32 (y.toNat:Int)).toNat:Int)=_
 rw[QeM,QeM,Qc0]
def QEs(x:BitVec 32)(n:Nat):(x.toNat:Int).fdiv (2 ^ n)=((x >>> n).toNat:Int):=by
 have e:((2:Int) ^ n)=((2 ^ n:Nat):Int):=by rw[Int.natCast_pow]; rfl
 rw[e,Int.fdiv_eq_ediv_of_nonneg _ (Int.natCast_nonneg _),BitVec.toNat_ushiftRight,Nat.shiftRight_eq_div_pow]
 rfl
def QvV(b:UInt8):IntKind.u32.wrap (b.toNat:Int)=((b32 b).toNat:Int):=by
 have e:(b32 b).toNat=b.toNat:=by
  have:=b.toNat_lt
  simp[b32]
 rw[<- e,Qc0]
end Go.V
namespace Go.V
open Go
def QrD(e:Option (Option Nat×TypeId×Nat))(xs:List (List PV))(a b c:Nat):Option DV:=
 match e with
 | some (none,_,sz)=>if a<=b/\b=c/\b<=xs.length/\(xs=[]\/(xs[0]?.map Ky)=some sz) then some (.pv (.slc ((xs.take b).drop a))) else none
 | _=>none
def Qp4(h1:0<=j)(h2:0<=m):Q5 P T (.pv (.sl xs)) none (some (.pv (.lit (.int k2 j)))) (some (.pv (.lit (.int k3 m))))=QrD (QE P T) xs 0 j.toNat m.toNat:=by
 unfold Q5 QrD
 rcases QE P T with _ | ⟨_ | n,t,sz⟩<;>simp[Qlo,Qif,Qkl,h1,h2]
def Qwq(e:Enc α)(l:List α)(T:TypeId):QrD (some (none,T,e.sz)) (fz e l) 0 l.length l.length=some (.pv (.slc (fz e l))):=by
 unfold QrD
 have h:=QfU e l
 simp only[Qmh,J7,Jp,h,and_self,if_true,Kl]
 rw[J3 (by rw[Qmh]; exact Jp _)]
def QAz:QrD (some (none,T,1)) (fz Qx l) 0 l.length l.length=some (.pv (.slc (fz Qx l))):=Qwq Qx l T
attribute [go_sem] Qp4 QAz
variable {α:Type} (e:Enc α)
theorem QjE(l:List α)(n:Nat)(h:n=l.length*e.sz):(cells e l).take n=cells e l:=by rw[J3]; rw[Qo]; omega
theorem QCJ(l:List α)(x:α):cells e l++cells e [x]=cells e (l.take l.length++x::l.drop l.length):=by
 rw[List.take_length,List.drop_length,<- QD]
theorem Qkj(l:List α)(i:Nat):((cells e l).drop (i*e.sz)).take ((l.length-i)*e.sz)=cells e (l.drop i):=by
 rw[Qi6,QjE]; rw[Jl]
theorem QFg(l:List α)(i:Nat)(h:i<l.length):splice (cells e l) ((i+1)*e.sz) (((cells e l).drop (i*e.sz)).take ((l.length-i)*e.sz))=cells e (l.take (i+1)++l.drop i):=by
 have e3:=Qb3 e l (l.drop i) (i+1)
 rw[JR (i:=i+1+(l.drop i).length) (by rw[Jl]; omega),Kg] at e3
 rw[Qkj,e3]
theorem QFh(l:List α)(x:α)(i:Nat)(h:i<l.length):splice (cells e (l.take (i+1)++l.drop i)) (i*e.sz) (cells e [x])=cells e (l.take i++x::l.drop i):=by
 have e3:=Qb3 e (l.take (i+1)++l.drop i) [x] i
 have e1:(l.take (i+1)++l.drop i).take i=l.take i:=by rw[List.take_append_of_le_length (by rw[Jn]; omega),List.take_take,KT (by omega)]
 have e2:(l.take (i+1)++l.drop i).drop (i+1)=l.drop i:=by rw[List.drop_append_of_le_length (by rw[Jn]; omega),JR (by rw[Jn]; omega),KS]
 rw[e1,show i+[x].length=i+1 from rfl,e2,List.append_assoc] at e3
 exact e3
theorem QFj(l:List α)(x:α)(i:Nat)(h:i<l.length)(Z:List DV):splice (cells e (l.take i)++Z) (i*e.sz) (cells e [x])=cells e (l.take i++[x])++Z.drop e.sz:=by
 have hl:(cells e (l.take i)).length=i*e.sz:=by rw[Qo,Jn,KT (by omega)]
 have h1:(cells e [x]).length=e.sz:=by rw[Qo]; simp
 unfold splice
 rw[<- hl,Km rfl,Kh,h1,QD]
theorem QFi(l:List α)(x:α)(i:Nat)(h:i<l.length)(Z:List DV)(hZ:Z.length=(l.length-i)*e.sz):splice (cells e (l.take i++[x])++Z) ((i+1)*e.sz) (((cells e l).drop (i*e.sz)).take ((l.length-i)*e.sz))=cells e (l.take i++x::l.drop i):=by
 have hl:(cells e (l.take i++[x])).length=(i+1)*e.sz:=by rw[Qo,Jd,Jn,KT (by omega)]; rfl
 have h1:(cells e (l.drop i)).length=(l.length-i)*e.sz:=by rw[Qo,Jl]
 rw[Qkj]
 unfold splice
 have hz:Z.drop ((l.length-i)*e.sz)=[]:=JR (by rw[hZ]; exact Jp _)
 rw[<- hl,Km rfl,Kh,h1,hz,Kg,<- QD]
 simp
theorem QiF(l:List α)(i:Nat)(x:α)(h:i<l.length):splice (cells e l) (i*e.sz) ((e.enc x).map DV.pv)=cells e (l.set i x):=by
 have:=Qb3 e l [x] i
 rw[List.set_eq_take_append_cons_drop,if_pos h]
 rw[show l.take i++x::l.drop (i+1)=l.take i++[x]++l.drop (i+[x].length) by simp,<- this]
 congr 1
 simp[cells]
theorem Qzg(l:List α)(i n:Nat)(z:List DV)(hz:z.length=e.sz)(h:i+n=l.length):splice (cells e l) (i*e.sz) (mk z n)=cells e (l.take i)++mk z n:=by
 unfold splice
 rw[Qfy,Qak,hz,<- Kz,h,JR (by rw[Qo]; omega),Kg]
theorem Qt9(p:Nat->Bool)(z:List DV)(h:DV.nums.go p z=true):∀ n,DV.nums.go p (mk z n)=true
 | 0=>rfl
 | n+1=>QuH h (Qt9 p z h n)
theorem QAi(l:List α)(i:Nat)(h:i<l.length):splice (cells e l) (i*e.sz) (((cells e l).drop ((i+1)*e.sz)).take ((l.length-(i+1))*e.sz))=cells e (l.take i++l.drop (i+1)++l.drop (l.length-1)):=by
 have e3:=Qb3 e l (l.drop (i+1)) i
 rw[Jl,show i+(l.length-(i+1))=l.length-1 by omega] at e3
 rw[Qkj,e3]
theorem QDe(l:List α)(i:Nat)(h:i<l.length):splice (cells e l) (i*e.sz) ((cells e l).drop ((i+1)*e.sz))=cells e (l.take i++l.drop (i+1)++l.drop (l.length-1)):=by
 have e1:=QAi e l i h
 have e2:((cells e l).drop ((i+1)*e.sz)).take ((l.length-(i+1))*e.sz)=(cells e l).drop ((i+1)*e.sz):=by rw[J3]; rw[Jl,Qo,<- Nat.sub_mul]; exact Jp _
 rwa [e2] at e1
theorem Qn4(l:List α)(i:Nat)(h:i<l.length):(l.take i++l.drop (i+1)).length=l.length-1:=by rw[Jd,Jn,Jl]; omega
theorem QDf(l:List α)(i:Nat)(h:i<l.length)(z:List DV)(hz:z.length=e.sz):splice (cells e (l.take i++l.drop (i+1)++l.drop (l.length-1))) ((l.length-1)*e.sz) z=cells e (l.take i++l.drop (i+1))++z:=by
 have hl:=Qn4 l i h
 have hc:(l.drop (l.length-1)).length=1:=by rw[Jl]; omega
 generalize l.take i++l.drop (i+1)=A at *
 generalize l.drop (l.length-1)=C at *
 unfold splice
 have h1:(cells e A).length=(l.length-1)*e.sz:=by rw[Qo,hl]
 have h2:(cells e C).length=e.sz:=by rw[Qo,hc,KM]
 rw[QD,<- h1,Km rfl,Kh,hz,JR (by omega),Kg]
theorem QDg(l:List α)(i:Nat)(h:i<l.length):(cells e (l.take i++l.drop (i+1)++l.drop (l.length-1))).length=l.length*e.sz:=by
 rw[Qo]
 simp only[Jd,Jn,Jl]
 rw[show min i l.length+(l.length-(i+1))+(l.length-(l.length-1))=l.length by omega]
end Go.V
namespace Go.V
open Go
def QCM(hh:HeapRel w β hp):HeapRel w β (QfT hp)/\Evo w β hp w β (QfT hp):=by
 have at_:∀ {i:Nat} {D:Blk},(QfT hp)[i]?=some D->∃ D0,hp[i]?=some D0/\D=D0.wk:=by
  intro i D hi
  rw[QfT,Jb] at hi
  obtain⟨x,h1,h2⟩:=Qz hi
  exact⟨x,h1,h2.symm⟩
 have lv:∀ b,live β (QfT hp) b->live β hp b:=by
  rintro b ⟨i,D,g1,g2,g3⟩
  obtain⟨D0,e1,rfl⟩:=at_ g1
  exact⟨i,D0,e1,g2,g3⟩
 have e:Evo w β hp w β (QfT hp):=
  ⟨rfl,rfl,rfl,Jp _,by simp[QfT],fun _ _=>rfl,fun _ _ _=>rfl,fun _ C _ m h=>⟨C,m,h,rfl⟩,fun b _ hb=>lv b hb,rfl⟩
 refine⟨⟨fun i D b g1 g2 g3=>?_,fun i D g1 g2 g3=>?_,fun i i2 D D2 b g1 g2 g3 g4 g5 g6=>?_,fun i D b g1 g2 g3=>?_,hh.bound⟩,e⟩
 ·obtain ⟨D0,e1,rfl⟩:=at_ g1
  obtain⟨C,c1,c2,c3⟩:=hh.blk i D0 b e1 g2 g3
  refine⟨C,c1,by show(DV.wk.go D0.cells).length<=_; rw[Q7,Jc]; exact c2,fun n x hx=>?_⟩
  have hx2:(DV.wk.go D0.cells)[n]?=some x:=hx
  rw[Q7,Jb] at hx2
  obtain⟨y,h1,h2⟩:=Qz hx2
  subst h2
  exact⟨DV.wk_one _ (c3 n y h1).1,((c3 n y h1).2.mono e).wk⟩
 ·obtain ⟨D0,e1,rfl⟩:=at_ g1
  have:=hh.none i D0 e1 g2 g3
  show DV.wk.go D0.cells=[]
  rw[this]; rfl
 ·obtain ⟨D0,e1,rfl⟩:=at_ g1
  obtain⟨D1,f1,rfl⟩:=at_ g2
  exact hh.inj i i2 D0 D1 b e1 f1 g3 g4 g5 g6
 ·obtain ⟨D0,e1,rfl⟩:=at_ g1
  exact hh.avoid i D0 b e1 g2 g3
def VCalls.wkH(c:VCalls P g (DV.wk.go args) (QfT hp) R):VCalls P g args hp R:=by
 refine VCalls.wkA ⟨fun w β vs hh ha=>?_⟩
 obtain⟨h1,e1⟩:=QCM hh
 refine(c.run w β vs h1 ⟨ha.1,fun i d hd=>(ha.2 i d hd).mono e1⟩).mono ?_
 rintro _ w' ⟨v,r,h',β',a,b,c,d,k⟩
 exact⟨v,r,h',β',a,e1.trans b,c,d,k⟩
theorem QeR:QfT []=[]:=rfl
theorem Qdl:QfT (B::r)=⟨B.ty,B.live,DV.wk.go B.cells⟩::QfT r:=rfl
theorem Qc1:DV.wk.go []=[]:=rfl
theorem Qcm:DV.wk.go (d::r)=d.wk::DV.wk.go r:=rfl
end Go.V
namespace Go.V
open Go
def DV.ipK(k:Nat)(c:List PV):DV->DV
 | .ptr j off=>if j=k/\off=0 then .ip c else .ptr j off
 | .fn f a b=>.fn f (go k c a) (go k c b)
 | .agg cs=>.agg (go k c cs)
 | d=>d
where
 go (k:Nat) (c:List PV):List DV->List DV
  | []=>[]
  | d::r=>d.ipK k c::go k c r
def QdQ(k:Nat)(c:List PV):∀ ds:List DV,DV.ipK.go k c ds=ds.map (DV.ipK k c)
 | []=>rfl
 | d::r=>by rw[DV.ipK.go,QdQ k c r]; rfl
def Qeo{hp:Qa}{k:Nat}{i:Nat}{D:Blk}(h:(hp.set k ⟨T,false,[]⟩)[i]?=some D)(hl:D.live=true):i≠k/\hp[i]?=some D:=by
 rw[JD] at h
 split at h
 ·split at h
  ·simp at h; subst h; simp at hl
  ·simp at h
 ·exact⟨fun e=>by rename_i hne; exact hne e.symm,h⟩
def Qmu(hh:HeapRel w β hp):HeapRel w β (hp.set k ⟨T,false,[]⟩)/\Evo w β hp w β (hp.set k ⟨T,false,[]⟩):=by
 have lv:∀ b,live β (hp.set k ⟨T,false,[]⟩) b->live β hp b:=by
  rintro b ⟨i,D,g1,g2,g3⟩
  exact⟨i,D,(Qeo g1 g2).2,g2,g3⟩
 have e:Evo w β hp w β (hp.set k ⟨T,false,[]⟩):=
  ⟨rfl,rfl,rfl,Jp _,by simp,fun _ _=>rfl,fun _ _ _=>rfl,fun _ C _ m h=>⟨C,m,h,rfl⟩,fun b _ hb=>lv b hb,rfl⟩
 refine⟨⟨fun i D b g1 g2 g3=>?_,fun i D g1 g2 g3=>hh.none i D (Qeo g1 g2).2 g2 g3,fun i i2 D D2 b g1 g2 g3 g4 g5 g6=>hh.inj i i2 D D2 b (Qeo g1 g3).2 (Qeo g2 g4).2 g3 g4 g5 g6,fun i D b g1 g2 g3=>hh.avoid i D b (Qeo g1 g2).2 g2 g3,hh.bound⟩,e⟩
 obtain⟨C,c1,c2,c3⟩:=hh.blk i D b (Qeo g1 g2).2 g2 g3
 exact⟨C,c1,c2,fun n x hx=>⟨(c3 n x hx).1,(c3 n x hx).2.mono e⟩⟩
def QxQ (hh:HeapRel w β hp) (hk:hp[k]? = some ⟨T,true,c.map .pv⟩) (h:RelD w β hp d v):RelD w β (hp.set k ⟨T,false,[]⟩) (d.ipK k c) v:=by
 have e:=(Qmu (k:=k) (T:=T) hh).2
 induction h with
 | ptr j off b hlt hm =>
   simp only[DV.ipK]
   split
   ·rename_i hc
    obtain⟨rfl,rfl⟩:=hc
    obtain⟨C,c1,c2,c3⟩:=hh.blk j _ b hk rfl hm
    have each:∀ (n:Nat) (d:PV),c[n]?=some d->n<C.v.size/\RelP w (img β hp) d (C.v.getD n undef):=fun n d hn=>by
     have h1:=c3 n (.pv d) (by rw[Jb,hn]; rfl)
     refine⟨by have:=(Jf.1 hn).1; simp at c2; omega,?_⟩
     cases h1.2 with | pv _ _ hp=>exact hp
    have nolive:¬ img β (hp.set j ⟨T,false,[]⟩) b:=by
     rintro(hx | ⟨i,D,g1,g2,g3⟩)
     ·exact hh.avoid j _ b hk rfl hm hx
     ·obtain ⟨q1,q2⟩:=Qeo g1 g2
      exact q1 (hh.inj i j D _ b q2 hk g2 rfl g3 hm)
    refine .ip c ⟨b,0,none⟩ (fun n=>C.v.getD n undef) rfl (fun n d hn=>⟨(Jh.1 c1).1,nolive,?_⟩) (fun n d hn=>(each n d hn).2.mono e.size e.same' e.im')
    have:=Q4 (o:=n) c1 (each n d hn).1
    simpa [at_] using this
   ·exact .ptr j off b (by simpa using hlt) hm
 | agg ds vs h _ ih =>
   simp only[DV.ipK,QdQ]
   refine .agg _ vs (by rw[Jc]; exact h) (fun i d hd=>?_)
   rw[Jb] at hd
   obtain⟨x,h1,h2⟩:=Qz hd
   subst h2; exact ih i x h1
 | fn f ds es vs us h h' _ _ ih ih' =>
   simp only[DV.ipK,QdQ]
   refine .fn f _ _ vs us (by rw[Jc]; exact h) (by rw[Jc]; exact h') (fun i d hd=>?_) (fun i d hd=>?_)
   ·rw [Jb] at hd
    obtain⟨x,h1,h2⟩:=Qz hd
    subst h2; exact ih i x h1
   ·rw [Jb] at hd
    obtain⟨x,h1,h2⟩:=Qz hd
    subst h2; exact ih' i x h1
 | pv p v h=>exact(RelD.pv p v h).mono e
 | own k sz off len cap b C T m h hb h1 h2 h3 h4=>exact(RelD.own k sz off len cap b C T m h hb h1 h2 h3 h4).mono e
 | ownc k sz off len cap b o C T m h hb h1 h2 h3 h4 h5=>exact(RelD.ownc k sz off len cap b o C T m h hb h1 h2 h3 h4 h5).mono e
 | own0 k sz a h hb ha=>exact(RelD.own0 k sz a h hb ha).mono e
 | ip cs ad val h1 h2 h3=>exact(RelD.ip cs ad val h1 h2 h3).mono e
 | tup ds vs h h2 _=>exact(RelD.tup ds vs h h2).mono e
 | opt c d v h hf _=>exact(RelD.opt c d v h hf).mono e
 | any v=>exact .any v
def VCalls.ipK(k:Nat)(c:List PV)(hk:hp[k]?=some ⟨T,true,c.map .pv⟩)(cc:VCalls P g (DV.ipK.go k c args) (hp.set k ⟨T,false,[]⟩) R):VCalls P g args hp R:=by
 refine⟨fun w β vs hh ha=>?_⟩
 obtain⟨h1,e1⟩:=Qmu (k:=k) (T:=T) hh
 rw[QdQ] at cc
 refine(cc.run w β vs h1 ⟨by rw[Jc]; exact ha.1,fun i d hd=>?_⟩).mono ?_
 ·rw [Jb] at hd
  obtain⟨x,q1,q2⟩:=Qz hd
  subst q2
  exact QxQ hh hk (ha.2 i x q1)
 ·rintro _ w' ⟨v,r,h',β',a,b,c,d,k⟩
  exact⟨v,r,h',β',a,e1.trans b,c,d,k⟩
end Go.V
namespace Go.V
open Go
def SimLe(S S':St):Prop:=∀ (O:Org) (β:Map) (a:Act) (w:World),Sim O β S a w->∃ β',Sim O β' S' a w
def SimLe.refl(S:St):SimLe S S:=fun _ β _ _ h=>⟨β,h⟩
def SimLe.trans(h:SimLe S S1)(g:SimLe S1 S2):SimLe S S2:=fun O β a w hs=>
 let ⟨β1,h1⟩:=h O β a w hs
 g O β1 a w h1
def SimLe.weak(h:Qro S S'):SimLe S S':=fun _ _ _ _ hs=>hs.weak h
def SimLe.fzN(h:FzN n S S'):SimLe S S':=fun _ β _ _ hs=>⟨β,hs.fzN h⟩
def SimLe.wk(h:SimLe ⟨S.nt,S.base,Qna S.tm,QfT S.hp⟩ S'):SimLe S S':=fun O β a w hs=>h O β a w (Qlp hs)
def VWp.simLe(S':St)(g:SimLe S S')(h:VWp P c Q S'):VWp P c Q S:=fun O β a w hs=>
 let ⟨β',hs'⟩:=g O β a w hs
 h O β' a w hs'
def VLoop.simLe(S':St)(g:SimLe S S')(h:VLoop P c Q S'):VLoop P c Q S:=VWp.simLe S' g h
def VDraw.simLe{id:Nat}(S':St)(g:SimLe S S')(h:VDraw P id ops Q S'):VDraw P id ops Q S:=VWp.simLe S' g h
def QqD:Nat->Code->Code
 | n+1,.seq a b=>.seq a (QqD n b)
 | _,_=>.skip
def QjR:Nat->Code->Code
 | n+1,.seq _ b=>QjR n b
 | _,c=>c
def QGH:∀ (n:Nat) {c:Code} {Q:Exit->St->Prop} {S:St},QC P (QqD n c) (Qag Q fun S'=>∃ S'',SimLe S' S''/\VWp P (QjR n c) Q S'') S->VWp P c Q S
 | 0,c,Q,S,h=>by
   have h:∃ S'',SimLe S S''/\VWp P (QjR 0 c) Q S'':=by cases c<;>exact h
   obtain⟨S'',h1,h2⟩:=h
   cases c<;>exact VWp.simLe S'' h1 h2
 | n + 1,c,Q,S,h=>by
   cases c with
   | seq a b =>
     intro O β ac w hs
     simp only[QqD,QC] at h
     refine wp_seq (wp_mono (QA a _ S h O β ac w hs) fun e a' w' hq=>?_)
     obtain⟨β',S',hs',hq⟩:=hq
     cases e with
     | normal=>exact QGH n (c:=b) hq O β' a' w' hs'
     | _=>exact⟨β',S',hs',hq⟩
   | _ =>
     obtain⟨S'',h1,h2⟩:=(h:∃ S'',SimLe S S''/\_)
     exact VWp.simLe S'' h1 h2
theorem Qop:Qna []=[]:=rfl
theorem Qk9:Qna ((t,d)::r)=(t,d.wk)::Qna r:=rfl
def QzG(a b:List DV):DV.wk.go (a++b)=DV.wk.go a++DV.wk.go b:=by rw[Q7,Q7,Q7,Kx]
theorem Qdm:QqD (n+1) (.seq a b)=.seq a (QqD n b):=rfl
def Qcz:QqD 0 c=.skip:=by cases c<;>rfl
theorem Qa8:QjR (n+1) (.seq a b)=QjR n b:=rfl
def Qay:QjR 0 c=c:=by cases c<;>rfl
def QAT(h:QC P c Q ⟨S.nt,S.base,Qna S.tm,QfT S.hp⟩):∃ S'',SimLe S S''/\VWp P c Q S'':=
 ⟨_,.wk (.refl _),QA _ _ _ h⟩
def QfK(P:Program)(rs:List ResultVar)(n:Nat)(R:DV->Qa->Prop)(e:Exit)(S:St):Prop:=Qc4 P rs n R e ⟨S.nt,S.base,Qna S.tm,QfT S.hp⟩
def QpL:QfK P rs n R .ret S=Qc4 P rs n R .ret ⟨S.nt,S.base,Qna S.tm,QfT S.hp⟩:=(rfl)
def Qjj:QfK P rs n R .normal S=Qc4 P rs n R .normal ⟨S.nt,S.base,Qna S.tm,QfT S.hp⟩:=(rfl)
def VWp.postK(h:VWp P c (QfK P rs n R) S):VWp P c (Qc4 P rs n R) S:=fun O β a w hs=>
 wp_mono (h O β a w hs) fun _ _ _ ⟨β',_,hs',hq⟩=>⟨β',_,Qlp hs',hq⟩
def QkW(hf:P.funcs[g]?=some fn)(hb:fn.body=some c)(hname:(fn.name == "runtime.NumGoroutine")=false)(hn:args.length<=fn.ntmps)(hc:QC P c (QfK P fn.results.toList h.length R) ⟨fn.ntmps,h.length,QhT 0 args,h⟩):VCalls P g args h R:=
 Qc8 hf hb hname hn (QA c _ _ hc).postK
attribute [go_sem ↓] QpL Qjj
attribute [go_sem] Qop Qk9 QeR Qdl Qc1 Qcm
end Go.V
namespace Go.V
open Go
variable {α:Type} (e:Enc α)
end Go.V
namespace Go.V
open Go
def rn{A P Q:Prop}(a:A)(q:Q)(h:A->P=Q:=by intro f1; (try simp(maxSteps:=2000000) (implicitDefEqProofs:=false) (disch:=first | omega | assumption | (simp only[List.length_cons,List.length_nil,Nat.zero_add,Nat.reduceAdd]; done) | (simp only[IntKind.wrap_i64]; omega) | (simp only[List.length_replicate,List.length_set,List.length_append,List.length_cons,List.length_nil,List.length_take,List.length_drop,List.length_map]<;>omega) | fail) only[go_sem,V.splice,V.mk,mkI,mkB,mkU,↓reduceIte,reduceCtorEq,Nat.reduceAdd,Nat.reduceLT,Nat.reduceLeDiff,Nat.reduceEqDiff,Nat.reduceMul,Nat.reduceSub,Nat.reduceBEq,Nat.reduceDiv,Nat.reducePow,Int.reduceToNat,Int.reduceLT,Int.reduceLE,Int.reduceNeg,Int.reduceAdd,Int.reduceSub,Int.reduceMul,Int.reduceEq,Int.reduceBEq,Int.reduceBNe,f1]); exact rfl):P:=(h a).mpr q
def rd{A P:Prop}(a:A)(h:A->P:=by intro f1; first | (simp(maxSteps:=2000000) (implicitDefEqProofs:=false) (disch:=first | omega | assumption | (simp only[List.length_cons,List.length_nil,Nat.zero_add,Nat.reduceAdd]; done) | (simp only[IntKind.wrap_i64]; omega) | (simp only[List.length_replicate,List.length_set,List.length_append,List.length_cons,List.length_nil,List.length_take,List.length_drop,List.length_map]<;>omega) | fail) only[go_sem,V.splice,V.mk,mkI,mkB,mkU,↓reduceIte,reduceCtorEq,Nat.reduceAdd,Nat.reduceLT,Nat.reduceLeDiff,Nat.reduceEqDiff,Nat.reduceMul,Nat.reduceSub,Nat.reduceBEq,Nat.reduceDiv,Nat.reducePow,Int.reduceToNat,Int.reduceLT,Int.reduceLE,Int.reduceNeg,Int.reduceAdd,Int.reduceSub,Int.reduceMul,Int.reduceEq,Int.reduceBEq,Int.reduceBNe,f1]<;>fail "no") | fail "no"):P:=h a
def sG{A X Y Q1 Q2:Prop}{all:List Oper}{o:Oper}{r:List Oper}{K:St->Prop}{G:Bool}(a:A)(q1:X->Q1)(q2:Y->Q2)(hx:(G=true)=X:=by(try simp only[decide_eq_true_eq,decide_eq_false_iff_not,Bool.or_eq_true,Bool.and_eq_true,Bool.or_eq_false_iff,Bool.and_eq_false_imp,Bool.not_eq_true',Bool.not_eq_false',beq_iff_eq,beq_eq_false_iff_ne,bne_iff_ne,bne_eq_false_iff_eq,ne_eq,Bool.not_eq_eq_eq_not,Bool.not_true,Bool.not_false,Int.not_lt,Int.not_le,Nat.not_lt,Nat.not_le]); exact rfl)(hy:(G=false)=Y:=by(try simp only[decide_eq_true_eq,decide_eq_false_iff_not,Bool.or_eq_true,Bool.and_eq_true,Bool.or_eq_false_iff,Bool.and_eq_false_imp,Bool.not_eq_true',Bool.not_eq_false',beq_iff_eq,beq_eq_false_iff_ne,bne_iff_ne,bne_eq_false_iff_eq,ne_eq,Bool.not_eq_eq_eq_not,Bool.not_true,Bool.not_false,Int.not_lt,Int.not_le,Nat.not_lt,Nat.not_le]); exact rfl)(h1:A->X->G=true->(Qfa P all o r K S true)=Q1:=by intro f1 hZ hG; (try rewrite [hG]); (first | rewrite [(hZ:_=false)] | rewrite [(hZ:_=true)] | skip); (try simp(maxSteps:=2000000) (implicitDefEqProofs:=false) (disch:=first | omega | assumption | (simp only[List.length_cons,List.length_nil,Nat.zero_add,Nat.reduceAdd]; done) | (simp only[IntKind.wrap_i64]; omega) | (simp only[List.length_replicate,List.length_set,List.length_append,List.length_cons,List.length_nil,List.length_take,List.length_drop,List.length_map]<;>omega) | fail) only[go_sem,V.splice,V.mk,mkI,mkB,mkU,↓reduceIte,reduceCtorEq,Nat.reduceAdd,Nat.reduceLT,Nat.reduceLeDiff,Nat.reduceEqDiff,Nat.reduceMul,Nat.reduceSub,Nat.reduceBEq,Nat.reduceDiv,Nat.reducePow,Int.reduceToNat,Int.reduceLT,Int.reduceLE,Int.reduceNeg,Int.reduceAdd,Int.reduceSub,Int.reduceMul,Int.reduceEq,Int.reduceBEq,Int.reduceBNe,f1]); exact rfl)(h2:A->Y->G=false->(Qfa P all o r K S false)=Q2:=by intro f1 hZ hG; (try rewrite [hG]); (first | rewrite [(hZ:_=false)] | rewrite [(hZ:_=true)] | skip); (try simp(maxSteps:=2000000) (implicitDefEqProofs:=false) (disch:=first | omega | assumption | (simp only[List.length_cons,List.length_nil,Nat.zero_add,Nat.reduceAdd]; done) | (simp only[IntKind.wrap_i64]; omega) | (simp only[List.length_replicate,List.length_set,List.length_append,List.length_cons,List.length_nil,List.length_take,List.length_drop,List.length_map]<;>omega) | fail) only[go_sem,V.splice,V.mk,mkI,mkB,mkU,↓reduceIte,reduceCtorEq,Nat.reduceAdd,Nat.reduceLT,Nat.reduceLeDiff,Nat.reduceEqDiff,Nat.reduceMul,Nat.reduceSub,Nat.reduceBEq,Nat.reduceDiv,Nat.reducePow,Int.reduceToNat,Int.reduceLT,Int.reduceLE,Int.reduceNeg,Int.reduceAdd,Int.reduceSub,Int.reduceMul,Int.reduceEq,Int.reduceBEq,Int.reduceBNe,f1]); exact rfl):Qfa P all o r K S G:=
 QgD (fun e=>by subst e; exact(h1 a (hx▸rfl) rfl).mpr (q1 (hx▸rfl))) (fun e=>by subst e; exact(h2 a (hy▸rfl) rfl).mpr (q2 (hy▸rfl)))
def sD{A X Y Q1 Q2:Prop}{all:List Oper}{o:Oper}{r:List Oper}{fs:List (List Nat×Bool)}{K:St->Prop}{G:Bool}(a:A)(q1:X->Q1)(q2:Y->Q2)(hx:(G=true)=X:=by(try simp only[decide_eq_true_eq,decide_eq_false_iff_not,Bool.or_eq_true,Bool.and_eq_true,Bool.or_eq_false_iff,Bool.and_eq_false_imp,Bool.not_eq_true',Bool.not_eq_false',beq_iff_eq,beq_eq_false_iff_ne,bne_iff_ne,bne_eq_false_iff_eq,ne_eq,Bool.not_eq_eq_eq_not,Bool.not_true,Bool.not_false,Int.not_lt,Int.not_le,Nat.not_lt,Nat.not_le]); exact rfl)(hy:(G=false)=Y:=by(try simp only[decide_eq_true_eq,decide_eq_false_iff_not,Bool.or_eq_true,Bool.and_eq_true,Bool.or_eq_false_iff,Bool.and_eq_false_imp,Bool.not_eq_true',Bool.not_eq_false',beq_iff_eq,beq_eq_false_iff_ne,bne_iff_ne,bne_eq_false_iff_eq,ne_eq,Bool.not_eq_eq_eq_not,Bool.not_true,Bool.not_false,Int.not_lt,Int.not_le,Nat.not_lt,Nat.not_le]); exact rfl)(h1:A->X->G=true->(QpW P all o r fs K S true)=Q1:=by intro f1 hZ hG; (try rewrite [hG]); (first | rewrite [(hZ:_=false)] | rewrite [(hZ:_=true)] | skip); (try simp(maxSteps:=2000000) (implicitDefEqProofs:=false) (disch:=first | omega | assumption | (simp only[List.length_cons,List.length_nil,Nat.zero_add,Nat.reduceAdd]; done) | (simp only[IntKind.wrap_i64]; omega) | (simp only[List.length_replicate,List.length_set,List.length_append,List.length_cons,List.length_nil,List.length_take,List.length_drop,List.length_map]<;>omega) | fail) only[go_sem,V.splice,V.mk,mkI,mkB,mkU,↓reduceIte,reduceCtorEq,Nat.reduceAdd,Nat.reduceLT,Nat.reduceLeDiff,Nat.reduceEqDiff,Nat.reduceMul,Nat.reduceSub,Nat.reduceBEq,Nat.reduceDiv,Nat.reducePow,Int.reduceToNat,Int.reduceLT,Int.reduceLE,Int.reduceNeg,Int.reduceAdd,Int.reduceSub,Int.reduceMul,Int.reduceEq,Int.reduceBEq,Int.reduceBNe,f1]); exact rfl)(h2:A->Y->G=false->(QpW P all o r fs K S false)=Q2:=by intro f1 hZ hG; (try rewrite [hG]); (first | rewrite [(hZ:_=false)] | rewrite [(hZ:_=true)] | skip); (try simp(maxSteps:=2000000) (implicitDefEqProofs:=false) (disch:=first | omega | assumption | (simp only[List.length_cons,List.length_nil,Nat.zero_add,Nat.reduceAdd]; done) | (simp only[IntKind.wrap_i64]; omega) | (simp only[List.length_replicate,List.length_set,List.length_append,List.length_cons,List.length_nil,List.length_take,List.length_drop,List.length_map]<;>omega) | fail) only[go_sem,V.splice,V.mk,mkI,mkB,mkU,↓reduceIte,reduceCtorEq,Nat.reduceAdd,Nat.reduceLT,Nat.reduceLeDiff,Nat.reduceEqDiff,Nat.reduceMul,Nat.reduceSub,Nat.reduceBEq,Nat.reduceDiv,Nat.reducePow,Int.reduceToNat,Int.reduceLT,Int.reduceLE,Int.reduceNeg,Int.reduceAdd,Int.reduceSub,Int.reduceMul,Int.reduceEq,Int.reduceBEq,Int.reduceBNe,f1]); exact rfl):QpW P all o r fs K S G:=
 Qiz (fun e=>by subst e; exact(h1 a (hx▸rfl) rfl).mpr (q1 (hx▸rfl))) (fun e=>by subst e; exact(h2 a (hy▸rfl) rfl).mpr (q2 (hy▸rfl)))
def sB{A X Y Q1 Q2:Prop}{c d:Code}{Q:Exit->St->Prop}{G:Bool}(a:A)(q1:X->Q1)(q2:Y->Q2)(hx:(G=true)=X:=by(try simp only[decide_eq_true_eq,decide_eq_false_iff_not,Bool.or_eq_true,Bool.and_eq_true,Bool.or_eq_false_iff,Bool.and_eq_false_imp,Bool.not_eq_true',Bool.not_eq_false',beq_iff_eq,beq_eq_false_iff_ne,bne_iff_ne,bne_eq_false_iff_eq,ne_eq,Bool.not_eq_eq_eq_not,Bool.not_true,Bool.not_false,Int.not_lt,Int.not_le,Nat.not_lt,Nat.not_le]); exact rfl)(hy:(G=false)=Y:=by(try simp only[decide_eq_true_eq,decide_eq_false_iff_not,Bool.or_eq_true,Bool.and_eq_true,Bool.or_eq_false_iff,Bool.and_eq_false_imp,Bool.not_eq_true',Bool.not_eq_false',beq_iff_eq,beq_eq_false_iff_ne,bne_iff_ne,bne_eq_false_iff_eq,ne_eq,Bool.not_eq_eq_eq_not,Bool.not_true,Bool.not_false,Int.not_lt,Int.not_le,Nat.not_lt,Nat.not_le]); exact rfl)(h1:A->X->G=true->(QC P c Q S)=Q1:=by intro f1 hZ hG; (try rewrite [hG]); (first | rewrite [(hZ:_=false)] | rewrite [(hZ:_=true)] | skip); (try simp(maxSteps:=2000000) (implicitDefEqProofs:=false) (disch:=first | omega | assumption | (simp only[List.length_cons,List.length_nil,Nat.zero_add,Nat.reduceAdd]; done) | (simp only[IntKind.wrap_i64]; omega) | (simp only[List.length_replicate,List.length_set,List.length_append,List.length_cons,List.length_nil,List.length_take,List.length_drop,List.length_map]<;>omega) | fail) only[go_sem,V.splice,V.mk,mkI,mkB,mkU,↓reduceIte,reduceCtorEq,Nat.reduceAdd,Nat.reduceLT,Nat.reduceLeDiff,Nat.reduceEqDiff,Nat.reduceMul,Nat.reduceSub,Nat.reduceBEq,Nat.reduceDiv,Nat.reducePow,Int.reduceToNat,Int.reduceLT,Int.reduceLE,Int.reduceNeg,Int.reduceAdd,Int.reduceSub,Int.reduceMul,Int.reduceEq,Int.reduceBEq,Int.reduceBNe,f1]); exact rfl)(h2:A->Y->G=false->(QC P d Q S)=Q2:=by intro f1 hZ hG; (try rewrite [hG]); (first | rewrite [(hZ:_=false)] | rewrite [(hZ:_=true)] | skip); (try simp(maxSteps:=2000000) (implicitDefEqProofs:=false) (disch:=first | omega | assumption | (simp only[List.length_cons,List.length_nil,Nat.zero_add,Nat.reduceAdd]; done) | (simp only[IntKind.wrap_i64]; omega) | (simp only[List.length_replicate,List.length_set,List.length_append,List.length_cons,List.length_nil,List.length_take,List.length_drop,List.length_map]<;>omega) | fail) only[go_sem,V.splice,V.mk,mkI,mkB,mkU,↓reduceIte,reduceCtorEq,Nat.reduceAdd,Nat.reduceLT,Nat.reduceLeDiff,Nat.reduceEqDiff,Nat.reduceMul,Nat.reduceSub,Nat.reduceBEq,Nat.reduceDiv,Nat.reducePow,Int.reduceToNat,Int.reduceLT,Int.reduceLE,Int.reduceNeg,Int.reduceAdd,Int.reduceSub,Int.reduceMul,Int.reduceEq,Int.reduceBEq,Int.reduceBNe,f1]); exact rfl):vbr P c d Q S G:=
 QM (fun e=>by subst e; exact(h1 a (hx▸rfl) rfl).mpr (q1 (hx▸rfl))) (fun e=>by subst e; exact(h2 a (hy▸rfl) rfl).mpr (q2 (hy▸rfl)))
def vp{A Q:Prop}{g:FuncId}{args:List DV}{hp:Qa}{K:DV->Qa->Prop}{d:DV}(a:A)(c:VCalls P g args [] (Ret d))(q:Q)(ha:DV.nums.go (fun _=>false) args=true:=by rfl)(h:A->K d hp=Q:=by intro f1; (try simp(maxSteps:=2000000) (implicitDefEqProofs:=false) (disch:=first | omega | assumption | (simp only[List.length_cons,List.length_nil,Nat.zero_add,Nat.reduceAdd]; done) | (simp only[IntKind.wrap_i64]; omega) | (simp only[List.length_replicate,List.length_set,List.length_append,List.length_cons,List.length_nil,List.length_take,List.length_drop,List.length_map]<;>omega) | fail) only[go_sem,V.splice,V.mk,mkI,mkB,mkU,↓reduceIte,reduceCtorEq,Nat.reduceAdd,Nat.reduceLT,Nat.reduceLeDiff,Nat.reduceEqDiff,Nat.reduceMul,Nat.reduceSub,Nat.reduceBEq,Nat.reduceDiv,Nat.reducePow,Int.reduceToNat,Int.reduceLT,Int.reduceLE,Int.reduceNeg,Int.reduceAdd,Int.reduceSub,Int.reduceMul,Int.reduceEq,Int.reduceBEq,Int.reduceBNe,f1]); exact rfl):VCalls P g args hp K:=Qav c ha ((h a).mpr q)
def vd{A Q:Prop}{g:FuncId}{args:List DV}{K:DV->Prop}{d:DV}(a:A)(c:VCalls P g args [] (Ret d))(q:Q)(ha:DV.nums.go (fun _=>false) args=true:=by rfl)(hd:d.nums (fun _=>false)=true:=by rfl)(h:A->K d=Q:=by intro f1; (try simp(maxSteps:=2000000) (implicitDefEqProofs:=false) (disch:=first | omega | assumption | (simp only[List.length_cons,List.length_nil,Nat.zero_add,Nat.reduceAdd]; done) | (simp only[IntKind.wrap_i64]; omega) | (simp only[List.length_replicate,List.length_set,List.length_append,List.length_cons,List.length_nil,List.length_take,List.length_drop,List.length_map]<;>omega) | fail) only[go_sem,V.splice,V.mk,mkI,mkB,mkU,↓reduceIte,reduceCtorEq,Nat.reduceAdd,Nat.reduceLT,Nat.reduceLeDiff,Nat.reduceEqDiff,Nat.reduceMul,Nat.reduceSub,Nat.reduceBEq,Nat.reduceDiv,Nat.reducePow,Int.reduceToNat,Int.reduceLT,Int.reduceLE,Int.reduceNeg,Int.reduceAdd,Int.reduceSub,Int.reduceMul,Int.reduceEq,Int.reduceBEq,Int.reduceBNe,f1]); exact rfl):vdc P g args K:=QwJ c ha hd ((h a).mpr q)
def vl{A Q:Prop}{g:FuncId}{args args0:List DV}{hp:Qa}{K:DV->Qa->Prop}{d:DV}(a:A)(c:VCalls P g args0 [] (Ret d))(q:Q)(ha:A->Qi (args.map (Qpk hp))=some args0:=by intro f1; first | (simp(maxSteps:=2000000) (implicitDefEqProofs:=false) (disch:=first | omega | assumption | (simp only[List.length_cons,List.length_nil,Nat.zero_add,Nat.reduceAdd]; done) | (simp only[IntKind.wrap_i64]; omega) | (simp only[List.length_replicate,List.length_set,List.length_append,List.length_cons,List.length_nil,List.length_take,List.length_drop,List.length_map]<;>omega) | fail) only[go_sem,V.splice,V.mk,mkI,mkB,mkU,↓reduceIte,reduceCtorEq,Nat.reduceAdd,Nat.reduceLT,Nat.reduceLeDiff,Nat.reduceEqDiff,Nat.reduceMul,Nat.reduceSub,Nat.reduceBEq,Nat.reduceDiv,Nat.reducePow,Int.reduceToNat,Int.reduceLT,Int.reduceLE,Int.reduceNeg,Int.reduceAdd,Int.reduceSub,Int.reduceMul,Int.reduceEq,Int.reduceBEq,Int.reduceBNe,f1]<;>fail "no") | fail "no")(hf:d.flat=true:=by rfl)(h:A->K d hp=Q:=by intro f1; (try simp(maxSteps:=2000000) (implicitDefEqProofs:=false) (disch:=first | omega | assumption | (simp only[List.length_cons,List.length_nil,Nat.zero_add,Nat.reduceAdd]; done) | (simp only[IntKind.wrap_i64]; omega) | (simp only[List.length_replicate,List.length_set,List.length_append,List.length_cons,List.length_nil,List.length_take,List.length_drop,List.length_map]<;>omega) | fail) only[go_sem,V.splice,V.mk,mkI,mkB,mkU,↓reduceIte,reduceCtorEq,Nat.reduceAdd,Nat.reduceLT,Nat.reduceLeDiff,Nat.reduceEqDiff,Nat.reduceMul,Nat.reduceSub,Nat.reduceBEq,Nat.reduceDiv,Nat.reducePow,Int.reduceToNat,Int.reduceLT,Int.reduceLE,Int.reduceNeg,Int.reduceAdd,Int.reduceSub,Int.reduceMul,Int.reduceEq,Int.reduceBEq,Int.reduceBNe,f1]); exact rfl):VCalls P g args hp K:=Qok c (ha a) hf ((h a).mpr q)
def vr{g:FuncId}{args:List DV}{hp:Qa}{K:DV->Qa->Prop}{R:DV->Prop}(c:VCalls P g args [] fun r h'=>h'=[]/\r.nums (fun _=>false)=true/\R r)(q:∀ r,R r->K r hp)(ha:DV.nums.go (fun _=>false) args=true:=by rfl):VCalls P g args hp K:=Qoj c ha q
def gc(keep:List Nat)(h1:S'.nt=S.nt:=by rfl)(h2:S'.base=S.base:=by rfl)(h3:keep.take S.base=JC S.base:=by rfl)(h4:keep.Nodup:=by decide)(h5:QGt keep S.hp keep S'.hp:=by(repeat' apply And.intro)<;>first | trivial | rfl | exact⟨_,rfl,rfl,rfl,.inl ⟨rfl,rfl⟩⟩ | exact⟨_,rfl,rfl,rfl,.inl ⟨Qg _ _ _,rfl⟩⟩ | exact⟨_,rfl,rfl,rfl,.inl ⟨Qgp _ _,rfl⟩⟩ | exact⟨_,rfl,rfl,rfl,.inr ⟨rfl,rfl⟩⟩)(h6:QGo keep S.tm S'.tm:=by(repeat' apply And.intro)<;>first | trivial | rfl | exact⟨_,rfl,rfl,rfl,.inl ⟨rfl,rfl⟩⟩ | exact⟨_,rfl,rfl,rfl,.inl ⟨Qg _ _ _,rfl⟩⟩ | exact⟨_,rfl,rfl,rfl,.inl ⟨Qgp _ _,rfl⟩⟩ | exact⟨_,rfl,rfl,rfl,.inr ⟨rfl,rfl⟩⟩):Qro S S':=QuM h1 h2 h3 h4 h5 h6
end Go.V
namespace Go.V
open Go
def QL{α:Type}(f:α->DV)(Q:α->Prop):DV->Qa->Prop:=fun r h'=>h'=[]/\r.nums (fun _=>false)=true/\∃ a,r=f a/\Q a
def Qr(c:VCalls P g args [] (QL f Q))(ha:DV.nums.go (fun _=>false) args=true)(h:∀ a,Q a->K (f a) hp):VCalls P g args hp K:=
 Qoj (R:=fun r=>∃ a,r=f a/\Q a) c ha fun r ⟨a,e,q⟩=>e▸h a q
def QwM(c:VCalls P g args0 [] (QL f Q))(ha:Qi (args.map (Qpk hp))=some args0)(hf:∀ a,(f a).flat=true)(h:∀ a,Q a->K (f a) hp):VCalls P g args hp K:=
 (VCalls.lendA (R:=fun r=>∃ a,r=f a/\Q a) ha (c.mono fun r h' e=>⟨e.1,by obtain⟨_,_,a,rfl,_⟩:=e; exact hf a,e.2.2⟩)).mono fun r h' e=>by obtain⟨rfl,a,rfl,q⟩:=e; exact h a q
def Qjz(sel:List Nat)(args1:List DV)(h0:Qa)(c:VCalls P g args0 [] (QL f Q))(hh0:h0=sel.map fun k=>hp.getD k default)(hpl:QfQ hp sel)(hnd:sel.Nodup)(ha1:args1=args.map (DV.ren fun j=>sel.idxOf j))(ha:DV.nums.go sel.contains args=true)(hf:Qi (args1.map (Qpk h0))=some args0)(h:∀ a,Q a->K (f a) (Qgc hp sel)):VCalls P g args hp K:=by
 subst hh0
 have c1:=VCalls.giveA (R:=fun r=>r.nums (fun _=>false)=true/\∃ a,r=f a/\Q a) hf (c.mono fun r h' e=>⟨e.1,e.2.1,e.2⟩)
 refine(VCalls.frame sel hnd (Qb7 hpl) (Qb8 hpl) c1 ha1 ha).mono ?_
 rintro r h2 ⟨r0,h',⟨rfl,hn,a,rfl,q⟩,_,rfl,rfl⟩
 rw[QfY fun k hk=>(Qcu hpl k hk).1,Qd5 _ _ hn]
 exact h a q
attribute [go_sem] DV.ren DV.ren.go KU List.getD_cons_succ List.getD_cons_zero
def VCalls.S(c:VCalls P g args hp (QL f Q))(h:∀ a,Q a->R a):VCalls P g args hp (QL f R):=
 c.mono fun _ _ ⟨h1,h2,a,e,q⟩=>⟨h1,h2,a,e,h a q⟩
def VCalls.toS(c:VCalls P g args hp (Ret d))(a:α)(e:d=f a)(q:Q a):VCalls P g args hp (QL f Q):=
 c.mono fun _ _ ⟨h1,h2,h3⟩=>⟨h1,h2,a,h3.trans e,q⟩
def RelD.own_nil (h:RelD w β hp (.own k sz off 0) v):RelD w β hp (.pv (.sl [])) v:=by
 cases h with
 | own _ _ _ _ cap b C T m h1 h2 h3 h4 h5 h6 =>
   exact .pv _ _ (.sl [] (some ⟨b,off,none⟩) cap 0 (fun _ _=>undef) (J7 _) h4 (by simp) (by intro ad e _; cases e; rfl) (by simp) (by simp))
 | own0 _ _ a h1 h2 h3 =>
   exact .pv _ _ (.sl [] a 0 0 (fun _ _=>undef) (J7 _) (J7 _) (by simp) (by intro ad e h; omega) (by simp) (by simp))
def ne1:DV->DV
 | .own _ _ _ 0=>.pv (.sl [])
 | d=>d
def Qt8(h:0<n):ne1 (.own k sz off n)=.own k sz off n:=by cases n; omega; rfl
theorem Qo3:ne1 (.own k sz off 0)=.pv (.sl []):=rfl
theorem Qz2:ne1 (.pv p)=.pv p:=rfl
def RelD.ne1(h:RelD w β hp d v):RelD w β hp (V.ne1 d) v:=by
 unfold V.ne1
 split
 ·exact h.own_nil
 ·exact h
def DV.ne:DV->DV
 | .agg cs=>.agg (cs.map ne1)
 | d=>d
def RelD.ne (h:RelD w β hp d v):RelD w β hp d.ne v:=by
 cases h with
 | agg ds vs h1 h2 =>
   refine .agg _ vs (by rw[Jc]; exact h1) fun i d hd=>?_
   rw[Jb] at hd
   obtain⟨x,e1,e2⟩:=Qz hd
   subst e2
   exact(h2 i x e1).ne1
 | pv p v h=>exact .pv p v h
 | ptr k off b h hb=>exact .ptr k off b h hb
 | own k sz off len cap b C T m h hb h1 h2 h3 h4=>exact .own k sz off len cap b C T m h hb h1 h2 h3 h4
 | ownc k sz off len cap b o C T m h hb h1 h2 h3 h4 h5=>exact .ownc k sz off len cap b o C T m h hb h1 h2 h3 h4 h5
 | own0 k sz a h1 h2 h3=>exact .own0 k sz a h1 h2 h3
 | ip cs ad val h1 h2 h3=>exact .ip cs ad val h1 h2 h3
 | fn f ds es vs us h1 h2 h3 h4=>exact .fn f ds es vs us h1 h2 h3 h4
 | tup ds vs h1 h2=>exact .tup ds vs h1 h2
 | opt c d v h1 h2=>exact .opt c d v h1 h2
 | any v=>exact .any v
def VCalls.neA(c:VCalls P g (args.map DV.ne) hp R):VCalls P g args hp R:=
 ⟨fun w β vs hh ha=>c.run w β vs hh ⟨by rw [Jc]; exact ha.1,fun i d hd=>by
  rw[Jb] at hd
  obtain⟨x,h1,h2⟩:=Qz hd
  subst h2
  exact(ha.2 i x h1).ne⟩⟩
def nf(h:b=true):¬ b=false:=by simp[h]
def nt(h:b=false):¬ b=true:=by simp[h]
def Qbo{α:Type}{n m:Nat}{a b:Option α}(h:n<=m):(if n<=m then a else b)=a:=if_pos h
end Go.V
namespace Go.V
open Go
def QrM(P:Program)(rs:List ResultVar)(R:DV->Qa->Prop)(e:Exit)(S:St):Prop:=∃ S',SimLe S S'/\Qa4 P rs R e S'
def VWp.postG(h:VWp P c (QrM P rs R) S):VWp P c (Qa4 P rs R) S:=fun O β a w hs=>
 wp_mono (h O β a w hs) fun _ _ _ ⟨_,_,hs',S',hw,hq⟩=>let ⟨β2,h2⟩:=hw _ _ _ _ hs'; ⟨β2,S',h2,hq⟩
def QI(S':St)(hw:Qro S S')(h:Qa4 P rs R e S'):QrM P rs R e S:=⟨S',.weak hw,h⟩
def QkV(hf:P.funcs[g]?=some fn)(hb:fn.body=some c)(hname:(fn.name == "runtime.NumGoroutine")=false)(hn:args.length<=fn.ntmps)(hc:VWp P c (Qa4 P fn.results.toList R) ⟨fn.ntmps,h.length,QhT 0 args,h⟩):VCalls P g args h R:=by
 refine Qfe hf hb hname hn (fun e S hq=>?_) hc
 unfold Qa4 at hq
 split at hq
 ·split at hq
  ·rename_i d hd; exact⟨.inl rfl,d,hd,.inr hq⟩
  ·exact hq.elim
 ·split at hq
  ·rename_i d hd; exact⟨.inr rfl,d,hd,.inr hq⟩
  ·exact hq.elim
 ·exact hq.elim
def QT(hf:P.funcs[g]?=some fn)(hb:fn.body=some c)(hname:(fn.name == "runtime.NumGoroutine")=false)(hn:args.length<=fn.ntmps)(hc:QC P c (QrM P fn.results.toList R) ⟨fn.ntmps,h.length,QhT 0 args,h⟩):VCalls P g args h R:=
 QkV hf hb hname hn (QA c _ _ hc).postG
def QmB(ha:a<hp.length)(hb:b<hp.length)(hc:c<hp.length)(ab:a≠b)(ac:a≠c)(bc:b≠c)(A B C:Blk)(r:Qa):
 QW hp [a,b,c] (A::B::C::r)=((hp.set a (QcV (back [a,b,c] hp.length) A)).set b (QcV (back [a,b,c] hp.length) B)).set c (QcV (back [a,b,c] hp.length) C)++r.map (QcV (back [a,b,c] hp.length)):=by
 unfold QW
 congr 1
 apply Ki
 intro j
 have q1:(a==b)=false:=by simp[ab]
 have q2:(a==c)=false:=by simp[ac]
 have q3:(b==c)=false:=by simp[bc]
 rw[Jb]
 by_cases hj:j<hp.length
 ·rw [KD hj,Jv]
  by_cases e1:a=j
  ·subst e1; simp[ha,ab,ac,ab.symm,ac.symm]
  by_cases e2:b=j
  ·subst e2; simp[hb,bc,bc.symm,ab.symm,q1,KU]
  by_cases e3:c=j
  ·subst e3; simp[hc,q2,q3,KU]
  rw[if_neg (by simp[Ne.symm e1,Ne.symm e2,Ne.symm e3]),JD,if_neg e3,JD,if_neg e2,JD,if_neg e1,Jm,Ja hj]; rfl
 ·rw [Jt (by simpa using Kt hj),Jt (by simpa using Kt hj)]
  rfl
end Go.V
namespace Go.V
open Go
end Go.V
namespace Go.V
abbrev wd(r:Option Nat):Fence:={ Fence.wide with round:=r }
def Qid(h:Qq ev o=some (g,args)):∀ c,o≠.defer c:=by
 rintro c rfl
 simp[Qq] at h
def Qdi(h:vop P ev hp o=some r):∀ c,o≠.defer c:=by
 rintro c rfl
 simp[vop] at h
def Qi8 {rd:Option Nat} {n:Nat} {hp:Qa} {ev:Operand->DV} {a:Act} {o:Oper} (hev:∀ x,RelD w β hp (ev x) (a.eval x)) {g:FuncId} {args:List DV} (hc:Qq ev o.op = some (g,args)) {R:DV->Qa->Prop} (hh:HeapRel w β hp) (hcalls:VCalls P g args hp R) {next:Act->World->Prop} {Q:Exit->Act->World->Prop} (hn:∀ v r h' β' w',Evo w β hp w' β' h'->HeapRel w' β' h'->RelD w' β' h' r v->R r h'->next (a.put o.dst v) w'):o.wpIn (wd rd) n P a w next Q:=by
 have hnd:=Qid hc
 unfold Qq at hc
 split at hc
 ·rename_i c hop
  split at hc
  ·rename_i f hcal
   split at hc
   ·rename_i g' first cap hfn
    simp at hc
    obtain⟨rfl,rfl⟩:=hc
    have hf:=hev f
    rw[hfn] at hf
    generalize hv:a.eval f=fv at hf
    cases hf with
    | fn _ _ _ vs us l1 l2 r1 r2 =>
      have hrel:RelL w β hp (first++c.args.toList.map ev++cap) (vs++c.args.map a.eval++us):=QcM (QcM ⟨l1,r1⟩ (Qgn hev c.args)) ⟨l2,r2⟩
      rcases hcalls.run w β (vs++c.args.map a.eval++us) hh (by simpa using hrel) with⟨fn,h1,h2,h3,h4⟩ | ⟨fn,v,w',h1,h2,h3,v',r,h',β',e,k1,k2,k3,k4⟩
      ·have hrun:(execOp a.eval o).run P w = .ok (.enter g' (vs ++ c.args.map a.eval ++ us)) w:=by
        simp[execOp,hop,resolve,hcal,hv,Deferred.ofValue,invoke,Qca h1 h2 h3]
       refine⟨fun _ _=>trivial,?_⟩
       rw[Oper.semAt_plain _ _ _ hnd,hrun,Oper.uponIn_enter]
       refine⟨fun h=>by simp[Fence.wide] at h,CallsIn.mono (F:=wd rd) (callsIn_wide.2 h4) ?_⟩
       rintro e w' ⟨v,r,h',β',rfl,k1,k2,k3,k4⟩
       exact hn v r h' β' w' k1 k2 k3 k4
      ·have hrun:(execOp a.eval o).run P w = .ok (.value v) w':=by
        rw[Array.append_assoc] at h3
        simp[execOp,hop,resolve,hcal,hv,Deferred.ofValue,invoke,h3]
       cases e
       refine⟨fun _ _=>trivial,?_⟩
       rw[Oper.semAt_plain _ _ _ hnd,hrun]
       exact hn v r h' β' w' k1 k2 k3 k4
   ·simp at hc
  ·simp at hc
 ·simp at hc
def Qdr{rd:Option Nat}{n:Nat}{hp hp':Qa}{o:Oper}{d:DV}(hnd:∀ c,o.op≠.defer c)(h:QmK P w β hp (execOp a.eval o) d hp'){next:Act->World->Prop}{Q:Exit->Act->World->Prop}(hn:∀ v w' β',Evo w β hp w' β' hp'->HeapRel w' β' hp'->RelD w' β' hp' d v->next (a.put o.dst v) w'):o.wpIn (wd rd) n P a w next Q:=by
 obtain⟨v,w',β',h1,h2,h3,h4⟩:=h
 refine⟨fun _ _=>trivial,?_⟩
 rw[Oper.semAt_plain _ _ _ hnd]
 rcases h1 with h1 | ⟨h1,rfl⟩
 ·rw[h1]; exact hn v w' β' h2 h3 h4
 ·rw[h1]; exact hn undef w' β' h2 h3 h4
def QaS {rd:Option Nat} {n:Nat} {ops:Array Oper} {Q:Exit->Act->World->Prop} {K:St->Prop} {tail:List Nat} {T:Act->Prop} (hT:∀ o ∈ ops.toList,∀ (a:Act) (v:Value),T a->T (a.put o.dst v)) (hK:∀ β S a w,Sim O β S a w->T a->K S->wpOpsIn (wd rd) n P ops Q tail a w):∀ (rest:List Oper) (pre post:List Oper),ops.toList = pre ++ rest ++ post->∀ (β:Map) (S:St) (a:Act) (w:World),Sim O β S a w->T a->Qar P ops.toList rest K S ->
 wpOpsIn (wd rd) n P ops Q (J0 pre.length rest.length++tail) a w
 | [],pre,post,_,β,S,a,w,hs,ht,h=>by
   simp only[Jg,Ub,KS]
   exact hK β S a w hs ht h
 | o :: r,pre,post,hops,β,S,a,w,hs,ht,h=>by
   have hT0:=hT o (by rw[hops]; simp)
   have hidx:ops[pre.length]?=some o:=by
    have:ops.toList[pre.length]?=some o:=by rw[hops]; simp
    simpa using this
   have ih:=fun β S a w=>QaS (P:=P) (rd:=rd) (n:=n) (O:=O) hT hK r (pre++[o]) post (by rw[hops]; simp) β S a w
   simp only[Jd,KV] at ih
   simp only[Je,Uc,KQ,wpOpsIn,hidx]
   unfold Qar at h
   obtain⟨hf,h⟩:=h
   split at h
   ·exact h.elim
   ·rename_i hg
    rw[QS (ops:=ops) hs hg,if_neg (by simp)]
    exact⟨fun _ _=>trivial,ih β _ _ _ (hs.skip (.tup [] #[] rfl (by simp)) hf) (hT0 a _ ht) h⟩
   ·rename_i hg
    rw[QS (ops:=ops) hs hg,if_pos rfl]
    have hev:∀ x,RelD w β S.hp (Qs true (S.ev x)) (a.eval x):=fun x=>Qaq (hs.ev x) rfl
    split at h
    ·rename_i g args hc
     refine Qi8 hev hc hs.heap h (fun v r h' β' w' k1 k2 k3 k4=>?_)
     exact ih β' _ _ _ (hs.step k1 k2 (Qa9 k3) hf) (hT0 a _ ht) k4
    ·split at h
     ·rename_i d hp' hv
      refine Qdr (Qdi hv) (Qa5 hs.heap hev (fun _=>rfl) hv) (fun v w' β' k1 k2 k3=>?_)
      exact ih β' _ _ _ (hs.step k1 k2 (Qa9 k3) hf) (hT0 a _ ht) h
     ·exact h.elim
def QgC{rd:Option Nat}{n:Nat}{ops:Array Oper}{Q:Exit->Act->World->Prop}{K:St->Prop}(hK:∀ β S a w,Sim O β S a w->K S->Q .normal a w)(β:Map)(S:St)(a:Act)(w:World)(hs:Sim O β S a w)(h:Qar P ops.toList ops.toList K S):
 wpOpsIn (wd rd) n P ops Q (JC ops.size) a w:=by
 have:=QaS (P:=P) (rd:=rd) (n:=n) (O:=O) (ops:=ops) (Q:=Q) (K:=K) (tail:=[]) (T:=fun _=>True) (fun _ _ _ _ _=>trivial) (fun β S a w hs _ hk=>hK β S a w hs hk) ops.toList [] [] (by simp) β S a w hs trivial h
 simpa [J8] using this
def QaL:Code->Bool
 | .skip | .exit _ | .ret=>true
 | .region _ _ d=>!d
 | .seq a b | .cond _ a b=>QaL a&&QaL b
 | .block _ c=>QaL c
 | _=>false
def Q8 {rd:Option Nat} {n:Nat}:∀ (c:Code) (Q:Exit->St->Prop) (S:St),QaL c = true->QC P c Q S->∀ (O:Org) (β:Map) (a:Act) (w:World),Sim O β S a w->c.wpIn (wd rd) n P (Ql1 O Q) a w
 | .skip,Q,S,_,h=>fun O β a w hs=>wpIn_skip ⟨β,S,hs,h⟩
 | .region id ops draw,Q,S,hp,h=>fun O β a w hs=>by
   unfold QC at h
   have hd:draw=false:=by simpa [QaL] using hp
   subst hd
   simp only[Ke,if_false] at h
   have:=QgC (P:=P) (rd:=rd) (n:=n) (O:=O) (ops:=ops) (Q:=Ql1 O Q) (K:=Q .normal) (fun β S a w hs hk=>⟨β,S,hs,hk⟩) β S a w hs h
   exact wpIn_region this
 | .seq x y,Q,S,hp,h=>fun O β a w hs=>by
   unfold QC at h
   simp only[QaL,Jq] at hp
   have h1:=Q8 (rd:=rd) (n:=n) x _ S hp.1 h O β a w hs
   refine wpIn_seq (wpIn_mono h1 fun e a' w' hq=>?_)
   obtain⟨β',S',hs',hq⟩:=hq
   cases e with
   | normal=>exact Q8 y Q S' hp.2 hq O β' a' w' hs'
   | _=>exact⟨β',S',hs',hq⟩
 | .cond c x y,Q,S,hp,h=>fun O β a w hs=>by
   unfold QC at h
   simp only[QaL,Jq] at hp
   split at h
   ·rename_i t ht
    have hc:=hs.ev c
    rw[ht] at hc
    refine wpIn_cond_split (Qk hc) (fun e=>?_) (fun e=>?_)
    ·exact Q8 x Q S hp.1 (h.1 e) O β a w hs
    ·exact Q8 y Q S hp.2 (h.2 e) O β a w hs
   ·exact h.elim
 | .block id c,Q,S,hp,h=>fun O β a w hs=>by
   unfold QC at h
   have h1:=Q8 (rd:=rd) (n:=n) c _ S (by simpa [QaL] using hp) h O β a w hs
   refine wpIn_block (wpIn_mono h1 fun e a' w' hq=>?_)
   obtain⟨β',S',hs',hq⟩:=hq
   cases e with
   | exit id' =>
     simp only[QaG] at hq
     simp only[Exit.inBlock]
     split
     ·rename_i he; rw[if_pos he] at hq; exact⟨β',S',hs',hq⟩
     ·rename_i he; rw[if_neg he] at hq; exact⟨β',S',hs',hq⟩
   | _=>exact⟨β',S',hs',hq⟩
 | .exit id,Q,S,_,h=>fun O β a w hs=>wpIn_exit ⟨β,S,hs,h⟩
 | .ret,Q,S,_,h=>fun O β a w hs=>wpIn_ret ⟨β,S,hs,h⟩
 | .loop _,_,_,hp,_=>by simp[QaL] at hp
 | .rangeFunc ..,_,_,hp,_=>by simp[QaL] at hp
 | .scope _,_,_,hp,_=>by simp[QaL] at hp
 | .label _,_,_,hp,_=>by simp[QaL] at hp
 | .goto _,_,_,hp,_=>by simp[QaL] at hp
 | .refuse _,_,_,hp,_=>by simp[QaL] at hp
end Go.V
namespace Go.V
section
variable {P:Program} {ops:Array Oper} {T:Nat->St} {F:Nat->List Nat×Bool} {rd:Option Nat} {n:Nat}
theorem Qf2 (h:Steps P ops T F) (hK:∀ β a w,Sim O β (T ops.size) a w->Q .normal a w):∀ (fuel:Nat) (listed:Array Bool) (a:Act) (w:World) (β:Map) (S:St),
 (JC ops.size).countP (fun i=>!listed.getD i false)<=fuel->Sim O β S a w->Inv O ops T F listed S->wpAnyIn (wd rd) n P .any ops Q fuel listed a w:=by
 have done : ∀ (listed:Array Bool) (a:Act) (w:World) (β:Map) (S:St),Region.ready .any ops listed = []->Sim O β S a w->Inv O ops T F listed S->Q .normal a w:=by
  intro listed a w β S hready hs hi
  have all:∀ i,i < ops.size->listed.getD i false = true:=by
   intro i
   induction i using KF with
   | _ i ih =>
     intro hlt
     cases hl:listed.getD i false with
     | true=>rfl
     | false =>
       have ho:ops[i]?=some ops[i]:=Ju hlt
       have hmem:i∈Region.ready .any ops listed:=by
        rw[mem_ready]
        refine⟨?_,ops[i],ho,fun e he hb=>ih e.on ((Qbp h.ok ho).1 e he hb) (KW ((Qbp h.ok ho).1 e he hb) hlt)⟩
        have hsz:i<listed.size:=by rw[hi.size]; exact hlt
        simpa [hsz] using hl
       rw[hready] at hmem
       cases hmem
  obtain⟨f1,f2,f3⟩:=QcB h ops.size (Jp _)
  have lt_of:∀ i t,wT ops i t->i<ops.size:=fun i t ⟨o,ho,_⟩=>(Jh.1 ho).1
  refine hK β a w (QAg (S:=S) (hi.nt.trans f1.symm) (hi.base.trans f2.symm) ?_ hs (fun t=>?_))
  ·apply Ki
   intro k
   obtain⟨m,hm,e,_,h2⟩:=hi.hp k
   rw[e]
   exact(QeS h ops.size hm (Jp _) (fun i h3 h4 hw=>by have:=h2 i h3 h4 hw; rw[all i h4] at this; cases this)).symm
  ·obtain ⟨m,hm,e,_,h2⟩:=hi.tm t
   rw[e]
   exact(Qey h ops.size hm (Jp _) (fun i h3 h4 hw=>by have:=h2 i h3 hw; rw[all i h4] at this; cases this)).symm
 intro fuel
 induction fuel with
 | zero =>
   intro listed a w β S hc hs hi
   have hready:Region.ready .any ops listed=[]:=by
    apply Kb.2
    intro j hj
    obtain⟨h0,o,ho,_⟩:=mem_ready.1 hj
    have hlt:j<ops.size:=(Jh.1 ho).1
    have:0<(JC ops.size).countP (fun i=>!listed.getD i false):=by
     rw[List.countP_pos_iff]
     refine⟨j,JS.2 hlt,?_⟩
     have hsz:j<listed.size:=by rw[hi.size]; exact hlt
     simp[hsz] at h0 |-
     exact h0
    omega
   exact⟨hready,done listed a w β S hready hs hi⟩
 | succ fuel ih =>
   intro listed a w β S hc hs hi
   refine⟨fun hready=>done listed a w β S hready hs hi,fun j hj=>?_⟩
   obtain⟨h0,oj,hoj,hr⟩:=mem_ready.1 hj
   have hlt:j<ops.size:=(Jh.1 hoj).1
   have hsz:j<listed.size:=by rw[hi.size]; exact hlt
   have hun:listed.getD j false=false:=by simp[hsz] at h0 |-; exact h0
   obtain⟨o',ho',hstep,_⟩:=h.step j hlt
   rw[hoj] at ho'
   simp at ho'
   subst ho'
   have htm:∀ t∈oj.looksAt ops,V.look S.tm t=V.look (T j).tm t:=fun t ht=>(Qut h hi hoj hun hr (.inl ht)).1
   have heff:=QeA hstep
   obtain⟨hf,G,hg,hcase⟩:=hstep
   obtain⟨f1,f2,f3⟩:=QcB h j (by omega)
   have hf':S.fits oj.dst=true:=by
    unfold St.fits at hf |-
    rw[hi.nt,<- f1]; exact hf
   have hg':QK ops.toList S oj=some G:=by rw[Qbv htm]; exact hg
   have hw:=QS (ops:=ops) hs hg'
   have hevS:∀ x∈oj.op.operands.toList,Qs G (S.ev x)=Qs G ((T j).ev x):=fun x hx=>by rw[Qik htm x hx]
   have hev:G=true->∀ x,RelD w β S.hp (Qs G (S.ev x)) (a.eval x):=fun hG x=>Qaq (hs.ev x) hG
   have hcnt:(JC ops.size).countP (fun i=>!(listed.setIfInBounds j true).getD i false)<=fuel:=by
    have:(JC ops.size).countP (fun i=>!(listed.setIfInBounds j true).getD i false)<(JC ops.size).countP (fun i=>!listed.getD i false):=by
     refine Qe4 (JS.2 hlt) (by rw[hun]; rfl) (by simp[hsz]) (fun i hp=>?_)
     by_cases hij:i=j
     ·rw[hij,hun]; rfl
     ·rw[getD_set_ne false (Ne.symm hij)] at hp; exact hp
    omega
   unfold wpOpIn
   simp only[hoj,hw]
   -- what stands QW this operation
   have next:∀ (β1:Map) (a1:Act) (w1:World) (S1:St),Sim O β1 S1 a1 w1->S1.nt=S.nt->S1.base=S.base->S1.hp.length=S.hp.length->(∀ t,oj.dst≠some t->V.look S1.tm t=V.look S.tm t)->(∀ t,oj.dst=some t->V.look S1.tm t=V.look (T (j+1)).tm t) ->
    (∀ k,¬ wB F j k->S1.hp[k]?=S.hp[k]?)->(∀ k,wB F j k->S1.hp[k]?=(T (j+1)).hp[k]?)->wpAnyIn (wd rd) n P .any ops Q fuel (listed.setIfInBounds j true) a1 w1:=
    fun β1 a1 w1 S1 k0 k1 k2 k3 k4 k5 k6 k7=>ih _ a1 w1 β1 S1 hcnt k0 (Qki h hi hoj hun hr k1 k2 k3 k4 k5 k6 k7)
   have putlook:∀ (S0:St) (d:DV) t,oj.dst=some t->V.look (S0.put oj.dst d).tm t=d:=fun S0 d t ht=>by rw[ht]; simp[St.put,V.look]
   rcases hcase with⟨g,args,d,hc,hcalls,ha,hd,hT,hF⟩ | ⟨d,hp',hc,hv,hk,hT,hF⟩ | ⟨rfl,hT,hF⟩
   ·have nb:∀ k,¬ wB F j k:=fun k hk=>by have:=hk.1; rw [hF] at this; cases this
    have fin:∀ (β1:Map) (a1:Act) (w1:World),Sim O β1 (S.put oj.dst (Qde oj.guard G d)) a1 w1->wpAnyIn (wd rd) n P .any ops Q fuel (listed.setIfInBounds j true) a1 w1:=fun β1 a1 w1 k0=>
     next β1 a1 w1 _ k0 (St.put_nt ..) (St.put_base ..) (by rw[St.put_hp]) (fun t ht=>St.put_look _ _ _ t ht) (fun t ht=>by rw[hT,putlook _ _ t ht,putlook _ _ t ht]) (fun k _=>by rw[St.put_hp]) (fun k hk=>absurd hk (nb k))
    cases hG:G with
    | true =>
      subst hG
      rw[if_pos rfl]
      have hc':Qq (fun x=>Qs true (S.ev x)) oj.op=some (g,args):=by rw[QhF hevS]; exact hc
      refine(Qi8 (hev rfl) hc' hs.heap ((VCalls.pure ((hcalls rfl).mono fun r h' ⟨e1,e2⟩=>⟨e1,by rw[e2]; exact hd,e2⟩) ha).mono fun r h' hh=>hh) (fun v r h' β' w' k1 k2 k3 k4=>?_))
      obtain⟨rfl,rfl⟩:=k4
      refine fin β' _ _ (hs.step k1 k2 (d:=Qde oj.guard true r) ?_ hf')
      cases oj.guard with
      | none=>exact k3
      | some _=>exact .opt true r v (fun _=>k3) (by simp)
    | false =>
      subst hG
      rw[if_neg (by simp)]
      refine⟨fun _ _=>trivial,?_⟩
      refine fin β _ _ (hs.skip (d:=Qde oj.guard false d) ?_ hf')
      cases hgd:oj.guard with
      | none=>simp[QK,hgd] at hg
      | some _=>exact .opt false d undef (by simp) (fun _=>rfl)
   ·have hfoot:∀ k ∈ (Qci (fun x=>Qs G ((T j).ev x)) oj.op).1,S.hp[k]? = (T j).hp[k]?:=fun k hk'=>by
     rw[<- hF] at hk'
     exact(Qmb h hi hoj hun hr hk').1
    have hcong:vop P (fun x=>Qs G (S.ev x)) S.hp oj.op=vop P (fun x=>Qs G ((T j).ev x)) S.hp oj.op:=QgF hk hevS
    cases hG:G with
    | true =>
      subst hG
      rw[if_pos rfl]
      simp only[cond_true] at hT
      have hdr:∀ {β':Map} {h':Qa} {w':World} {v:Value},RelD w' β' h' d v->RelD w' β' h' (Qde oj.guard true d) v:=fun {β' h' w' v} k3=>by
       cases oj.guard with
       | none=>exact k3
       | some _=>exact .opt true d v (fun _=>k3) (by simp)
      rcases Qc5 (hp':=S.hp) hk hfoot hv with⟨w0,e1,e2⟩ | ⟨w1,k0,cs,e0,e1,e2⟩
      ·rw [<- hcong] at e2
       subst e1
       have nb:∀ k,¬ wB F j k:=fun k hk=>by have:=hk.1; rw[hF,w0] at this; cases this
       refine(Qdr (Qdi e2) (Qa5 hs.heap (hev rfl) (fun _=>rfl) e2) (fun v w' β' k1 k2 k3=>?_))
       exact next β' _ _ _ (hs.step k1 k2 (hdr k3) hf') (St.put_nt ..) (St.put_base ..) (by rw[St.put_hp]) (fun t ht=>St.put_look _ _ _ t ht) (fun t ht=>by rw[hT,putlook _ _ t ht,putlook _ _ t ht])
        (fun k _=>by rw[St.put_hp]) (fun k hk=>absurd hk (nb k))
      ·rw [<- hcong] at e2
       subst e1
       refine(Qdr (Qdi e2) (Qa5 hs.heap (hev rfl) (fun _=>rfl) e2) (fun v w' β' k1 k2 k3=>?_))
       have hwk:∀ k,wB F j k ↔ k=k0:=fun k=>by unfold wB; rw[hF,w1,e0]; simp
       refine next β' _ _ _ (hs.step k1 k2 (hdr k3) hf') (St.put_nt ..) (St.put_base ..) (by rw[St.put_hp]; show(Qv S.hp k0 cs).length=_; unfold Qv; split<;>simp) (fun t ht=>St.put_look _ _ _ t ht) (fun t ht=>by rw[hT,putlook _ _ t ht,putlook _ _ t ht]) (fun k hk=>?_) (fun k hk=>?_)
       ·rw [St.put_hp]
        show(Qv S.hp k0 cs)[k]?=_
        have hne:k0≠k:=fun he=>hk ((hwk k).2 he.symm)
        unfold Qv
        split
        ·rw[Kk hne]
        ·rfl
       ·rw [(hwk k).1 hk,hT,St.put_hp,St.put_hp]
        show(Qv S.hp k0 cs)[k0]?=(Qv (T j).hp k0 cs)[k0]?
        have hsame:S.hp[k0]?=(T j).hp[k0]?:=hfoot k0 (by rw[e0]; simp)
        unfold Qv
        rw[hsame]
        cases hB:(T j).hp[k0]? with
        | none=>simp only; rw[hsame]
        | some B =>
          have l1:k0<(T j).hp.length:=(Jf.1 hB).1
          have l2:k0<S.hp.length:=(Jf.1 (hsame.trans hB)).1
          simp only
          rw[Ko l1,Ko l2]
    | false =>
      subst hG
      rw[if_neg (by simp)]
      refine⟨fun _ _=>trivial,?_⟩
      simp only[cond_false] at hT
      refine next β _ _ (S.put oj.dst (Qde oj.guard false d)) (hs.skip (d:=Qde oj.guard false d) ?_ hf') (St.put_nt ..) (St.put_base ..) (by rw[St.put_hp]) (fun t ht=>St.put_look _ _ _ t ht) (fun t ht=>by rw[hT,putlook _ _ t ht,putlook _ _ t ht]) (fun k _=>by rw[St.put_hp]) (fun k hk=>?_)
      ·cases hgd:oj.guard with
       | none=>simp[QK,hgd] at hg
       | some _=>exact .opt false d undef (by simp) (fun _=>rfl)
      ·rw [hT,St.put_hp,St.put_hp]
       exact(Qmb h hi hoj hun hr hk.2).1
   ·have nb:∀ k,¬ wB F j k:=fun k hk=>by have:=hk.1; rw [hF] at this; cases this
    rw[if_neg (by simp)]
    refine⟨fun _ _=>trivial,?_⟩
    exact next β _ _ _ (hs.skip (.tup [] #[] rfl (by simp)) hf') (St.put_nt ..) (St.put_base ..) (by rw[St.put_hp]) (fun t ht=>St.put_look _ _ _ t ht) (fun t ht=>by rw[hT,putlook _ _ t ht,putlook _ _ t ht]) (fun k _=>by rw[St.put_hp]) (fun k hk=>absurd hk (nb k))
end
def QzI {rd:Option Nat} {n:Nat} {id:Nat} {ops:Array Oper} {Q:Exit->St->Prop} (hm:P.follows .mixedOrders = true) (hB:Qe3 ops = true) (h:vdr P ops.toList ops.toList [] (Q .normal) S):∀ (O:Org) (β:Map) (a:Act) (w:World),Sim O β S a w->(Code.region id ops true).wpIn (wd rd) n P (Ql1 O Q) a w:=by
 intro O β a w hs
 obtain⟨T,F,_,h2,h3,h4⟩:=Qer ops.toList [] [] S rfl rfl h
 simp only[Jg] at h2
 have hsteps:Steps P ops T F:=⟨fun j hj=>by
  obtain⟨o,e1,e2,e3⟩:=h4 j (J7 _) (by simpa using hj)
  exact⟨o,by simpa using e1,e2,e3⟩,hB⟩
 have hs':Sim O β (T 0) a { w with drawn:=w.drawn+1 }:=by
  rw[h2]
  have e:Evo w β S.hp w.drew β S.hp:=QbF w β S.hp
  exact⟨hs.defers,hs.size,fun t=>(hs.tm t).mono e,hs.heap.drew,hs.evo.trans e,hs.base⟩
 refine wpIn_region_any hm (Qf2 (O:=O) (Q:=Ql1 O Q) hsteps (fun β a w hk=>⟨β,_,hk,by simpa using h3⟩) ops.size (JP ops.size false) a _ β (T 0) ?_ hs' ?_)
 ·have:=KX (p:=fun i=>!(JP ops.size false).getD i false) (l:=JC ops.size)
  simpa using this
 ·have hfalse:∀ i,(JP ops.size false).getD i false = false:=fun i=>by
   by_cases hi:i<ops.size
   ·simp[hi]
   ·simp[hi]
  refine⟨by simp,rfl,rfl,rfl,fun i o _ hl=>?_,fun t=>⟨0,J7 _,rfl,fun i hi=>absurd hi (KE _),fun i _ _=>hfalse i⟩,fun k=>⟨0,J7 _,rfl,fun i hi=>absurd hi (KE _),fun i _ _ _=>hfalse i⟩⟩
  rw[hfalse] at hl
  cases hl
inductive CutD (K:Nat) (ops0:Array Oper):Code->Code->Prop
 | skip:CutD K ops0 .skip .skip
 | exit (id:Nat) (h:(id==K)=false):CutD K ops0 (.exit id) (.exit id)
 | ret:CutD K ops0 .ret .ret
 | region (id:Nat) (ops:Array Oper):CutD K ops0 (.region id ops false) (.region id ops false)
 | draw (id:Nat):CutD K ops0 (.seq (.region id ops0 true) .ret) (.exit K)
 | seq {a a' b b':Code} (h:CutD K ops0 a a') (h':CutD K ops0 b b'):CutD K ops0 (.seq a b) (.seq a' b')
 | cond (c:Operand) {a a' b b':Code} (h:CutD K ops0 a a') (h':CutD K ops0 b b'):CutD K ops0 (.cond c a b) (.cond c a' b')
 | block (id:Nat) (hid:(id==K)=false) {a a':Code} (h:CutD K ops0 a a'):CutD K ops0 (.block id a) (.block id a')
def QkS {rd:Option Nat} {n K:Nat} {ops0:Array Oper} (hm:P.follows .mixedOrders = true) (hB:Qe3 ops0 = true) {c c':Code} (hc:CutD K ops0 c c'):∀ (Q' Q:Exit->St->Prop),(∀ S,Q' (.exit K) S->vdr P ops0.toList ops0.toList [] (Q .ret) S)->(∀ e S,e ≠ .exit K->Q' e S->Q e S) ->
 ∀ (S:St),QC P c' Q' S->∀ (O:Org) (β:Map) (a:Act) (w:World),Sim O β S a w->c.wpIn (wd rd) n P (Ql1 O Q) a w:=by
 induction hc with
 | skip=>intro Q' Q hK hQ S h O β a w hs; exact wpIn_skip ⟨β,S,hs,hQ _ _ (by simp) h⟩
 | exit id hid=>intro Q' Q hK hQ S h O β a w hs; exact wpIn_exit ⟨β,S,hs,hQ _ _ (by simpa using hid) h⟩
 | ret=>intro Q' Q hK hQ S h O β a w hs; exact wpIn_ret ⟨β,S,hs,hQ _ _ (by simp) h⟩
 | region id ops =>
   intro Q' Q hK hQ S h O β a w hs
   unfold QC at h
   simp only[Ke,if_false] at h
   exact wpIn_region (QgC (P:=P) (rd:=rd) (n:=n) (O:=O) (ops:=ops) (Q:=Ql1 O Q) (K:=Q' .normal) (fun β S a w hs hk=>⟨β,S,hs,hQ _ _ (by simp) hk⟩) β S a w hs h)
 | draw id =>
   intro Q' Q hK hQ S h O β a w hs
   refine wpIn_seq (wpIn_mono (QzI (Q:=fun e S=>e=.normal/\Q .ret S) hm hB ?_ O β a w hs) ?_)
   ·have:=hK S h
    have e:(fun S=>Exit.normal=Exit.normal/\Q Exit.ret S)=Q .ret:=by funext S; simp
    rw[e]; exact this
   ·rintro e a' w' ⟨β',S',hs',rfl,q⟩
    exact wpIn_ret ⟨β',S',hs',q⟩
 | seq h h' ih ih' =>
   rename_i x x' y y'
   intro Q' Q hK hQ S hv O β a w hs
   unfold QC at hv
   refine wpIn_seq (wpIn_mono (ih (Qag Q' (QC P y' Q')) (Qag Q (QC P y' Q')) hK (fun e S he hq=>?_) S hv O β a w hs) fun e a' w' hq=>?_)
   ·cases e with
    | normal=>exact hq
    | _=>exact hQ _ _ he hq
   ·obtain ⟨β',S',hs',hq⟩:=hq
    cases e with
    | normal=>exact ih' Q' Q hK hQ S' hq O β' a' w' hs'
    | _=>exact⟨β',S',hs',hq⟩
 | cond c h h' ih ih' =>
   intro Q' Q hK hQ S hv O β a w hs
   unfold QC at hv
   split at hv
   ·rename_i t ht
    have hc:=hs.ev c
    rw[ht] at hc
    refine wpIn_cond_split (Qk hc) (fun e=>?_) (fun e=>?_)
    ·exact ih Q' Q hK hQ S (hv.1 e) O β a w hs
    ·exact ih' Q' Q hK hQ S (hv.2 e) O β a w hs
   ·exact hv.elim
 | block id hid h ih =>
   intro Q' Q hK hQ S hv O β a w hs
   unfold QC at hv
   have hne:K≠id:=fun e=>by subst e; simp at hid
   refine wpIn_block (wpIn_mono (ih (QaG id Q') (QaG id Q) (fun S hq=>?_) (fun e S he hq=>?_) S hv O β a w hs) fun e a' w' hq=>?_)
   ·simp only [QaG,if_neg hne] at hq
    exact hK S hq
   ·cases e with
    | exit id' =>
      simp only[QaG] at hq |-
      split
      ·rename_i he'; rw[if_pos he'] at hq; exact hQ _ _ (by simp) hq
      ·rename_i he'; rw[if_neg he'] at hq; exact hQ _ _ he hq
    | _=>exact hQ _ _ (by simp) hq
   ·obtain ⟨β',S',hs',hq⟩:=hq
    cases e with
    | exit id' =>
      simp only[QaG] at hq
      simp only[Exit.inBlock]
      split
      ·rename_i he; rw[if_pos he] at hq; exact⟨β',S',hs',hq⟩
      ·rename_i he; rw[if_neg he] at hq; exact⟨β',S',hs',hq⟩
    | _=>exact⟨β',S',hs',hq⟩
end Go.V
namespace Go.V
open Go.RowKit (Below)
structure Up(w w':World):Prop where
 size:w.heap.size<=w'.heap.size
 same:∀ (b:Nat) (C:Array Value) (T:TypeId) (m:Nat×Nat),w.heap[b]?=some (.cells C T m)->w'.heap[b]?=some (.cells C T m)
def Up.cell(u:Up w w')(h:w.cell? a=some v):w'.cell? a=some v:=by
 obtain⟨o,ho,hc⟩:=cells_of_cell h
 cases o with
 | cells C T m=>exact(World.cell?_of_block (by rw[u.same _ _ _ _ ho,ho])).trans h
 | _=>simp[Obj.isCells] at hc
def RelP.up (h:RelP w im p v) (u:Up w w'):RelP w' im p v:=by
 induction h with
 | lit v h=>exact .lit v h
 | str l=>exact .str l
 | sl xs a cap sz val h1 h2 h3 h4 h5 _ ih =>
   refine .sl xs a cap sz val h1 h2 h3 h4 (fun i j c d hc hd=>?_) (fun i j c d hc hd=>ih i j c d hc hd)
   obtain⟨ad,e,hb,hn,hcell⟩:=h5 i j c d hc hd
   exact⟨ad,e,Jk hb u.size,hn,u.cell hcell⟩
 | slc xs a sz val h2 h3 h4 h5 _ ih =>
   refine .slc xs a sz val h2 h3 h4 (fun i j c d hc hd=>?_) (fun i j c d hc hd=>ih i j c d hc hd)
   obtain⟨ad,e,hb,hn,hcell⟩:=h5 i j c d hc hd
   exact⟨ad,e,Jk hb u.size,hn,u.cell hcell⟩
def RelD.up (h:RelD w β hp d v) (u:Up w w'):RelD w' β hp d v:=by
 induction h with
 | pv p v h=>exact .pv p v (h.up u)
 | ptr k off b h hb=>exact .ptr k off b h hb
 | own k sz off len cap b C T m h hb h1 h2 h3 h4=>exact .own k sz off len cap b C T m h hb h1 h2 (u.same _ _ _ _ h3) h4
 | ownc k sz off len cap b o C T m h hb h1 h2 h3 h4 h5=>exact .ownc k sz off len cap b o C T m h hb h1 h2 (u.same _ _ _ _ h3) h4 h5
 | own0 k sz a h hb ha=>exact .own0 k sz a h hb ha
 | ip cs ad val h1 h2 h3 =>
   exact .ip cs ad val h1 (fun j d hd=>⟨Jk (h2 j d hd).1 u.size,(h2 j d hd).2.1,u.cell (h2 j d hd).2.2⟩) (fun j d hd=>(h3 j d hd).up u)
 | agg ds vs h _ ih=>exact .agg ds vs h ih
 | fn f ds es vs us h h' _ _ ih ih'=>exact .fn f ds es vs us h h' ih ih'
 | tup ds vs h _ ih=>exact .tup ds vs h ih
 | opt c d v _ hf ih=>exact .opt c d v ih hf
 | any v=>exact .any v
def HeapRel.up(h:HeapRel w β hp)(u:Up w w'):HeapRel w' β hp:=by
 refine⟨fun k B b hk hl hb=>?_,h.none,h.inj,h.avoid,fun b hb=>Jk (h.bound b hb) u.size⟩
 obtain⟨C,c1,c2,c3⟩:=h.blk k B b hk hl hb
 exact⟨C,u.same _ _ _ _ c1,c2,fun i d hd=>⟨(c3 i d hd).1,(c3 i d hd).2.up u⟩⟩
def Up.grown(hg:w.grownBy w' row)(hr:∀ r,row=some r->∃ o:Obj,w.heap[r]?=some o/\o.isCells=false):Up w w':=by
 refine⟨hg.size,fun b C T m hb=>?_⟩
 rw[grownBy_keeps_cells hg hr hb rfl]; exact hb
def Evo.grown(e:Evo w β hp W β' hp')(hg:W.grownBy W' row)(hr:∀ r,row=some r->w.heap.size<=r/\∃ o:Obj,W.heap[r]?=some o/\o.isCells=false):Evo w β hp W' β' hp':=by
 have u:=Up.grown hg (fun r h=>(hr r h).2)
 refine⟨hg.os.trans e.os,hg.tape.trans e.tape,hg.output.trans e.output,Kp e.size hg.size,e.len,e.beta,fun b hb hl=>?_,fun b C T m hb=>?_,e.im,e.X⟩
 ·rw [hg.block b (Jk hb e.size) (fun h=>by have:=(hr b h.symm).1; omega)]
  exact e.same b hb hl
 ·obtain ⟨C',m',h1,h2⟩:=e.shape b C T m hb
  exact⟨C',m',u.same _ _ _ _ h1,h2⟩
def Evo.others(hh:HeapRel w β hp)(e:Evo w β hp W β' hp'):KeepsOthers w W:=by
 refine⟨e.size,fun k o hk ho=>?_⟩
 rw[e.same k (Jh.1 hk).1 ?_]
 ·exact hk
 rintro⟨j,B,h1,h2,h3⟩
 obtain⟨C,c1,_⟩:=hh.blk j B k h1 h2 h3
 rw[hk] at c1
 cases c1
 cases ho
def Qg6{hp0 hp:Qa}(h:hp.take hp0.length=hp0){k:Nat}{B:Blk}(hk:hp0[k]?=some B):hp[k]?=some B:=by
 rw[<- h,List.getElem?_take] at hk
 split at hk
 ·exact hk
 ·cases hk
def HeapRel.pre(hh:HeapRel w β hp)(h:hp.take hp0.length=hp0)(hr:∀ (k:Nat) (B:Blk),hp0[k]?=some B->DV.refs.go hp0.length B.cells=true):HeapRel w β hp0:=by
 have lv:∀ b,live β hp0 b->live β hp b:=fun b ⟨j,B,h1,h2,h3⟩=>⟨j,B,Qg6 h h1,h2,h3⟩
 refine⟨fun k B b hk hl hb=>?_,fun k B hk=>hh.none k B (Qg6 h hk),fun j k B B' b hj hk=>hh.inj j k B B' b (Qg6 h hj) (Qg6 h hk),fun k B b hk=>hh.avoid k B b (Qg6 h hk),hh.bound⟩
 obtain⟨C,c1,c2,c3⟩:=hh.blk k B b (Qg6 h hk) hl hb
 refine⟨C,c1,c2,fun i d hd=>⟨(c3 i d hd).1,(c3 i d hd).2.drop (DV.refs_go (hr k B hk) i d hd) (fun b hb=>hb.imp id (lv b))⟩⟩
def Evo.pre(e:Evo w β hp0 W β' hp)(hl:hp0.length<=hp1.length)(h:hp.take hp1.length=hp1):Evo w β hp0 W β' hp1:=
 ⟨e.os,e.tape,e.output,e.size,hl,e.beta,e.same,e.shape,fun b hb ⟨j,B,h1,h2,h3⟩=>e.im b hb ⟨j,B,Qg6 h h1,h2,h3⟩,e.X⟩
def Lies(w:World)(β:Map)(hp:Qa)(W:World):Prop:=∃ β1,HeapRel W β1 hp/\Evo w β hp W β1 hp
def Lies.grown(h:Lies w β hp W)(hg:W.grownBy W' row)(hr:∀ r,row=some r->w.heap.size<=r/\∃ o:Obj,W.heap[r]?=some o/\o.isCells=false):Lies w β hp W':=by
 obtain⟨β1,h1,h2⟩:=h
 exact⟨β1,h1.up (Up.grown hg fun r h=>(hr r h).2),h2.grown hg hr⟩
def QIK(w:World)(β:Map)(hp:Qa)(W W':World):Prop:=Lies w β hp W->Lies w β hp W'
def down(n:Nat):List (Fin n):=(List.finRange n).reverse
def Qy3(xs:List (List PV))(i:Nat):DV:=.agg ((xs.getD i []).map .pv)
def QF1 (P:Program) (gf:Nat) (cap:DV) (hp:Qa) (xs:List (List PV)):Prop :=
 ∀ (w:World) (β:Map) (vcap:Value),HeapRel w β hp->RelD w β hp cap vcap->∃ V:Nat->Value,(∀ i,i < xs.length->RelD w β hp (Qy3 xs i) (V i)) /\
   SeqStopsK Fence.wide 9 P gf #[vcap] (fun i:Fin xs.length=>#[.int .i64 (i.1:Int),V i.1]) (QIK w β hp) (fun l=>l=down xs.length) (fun l=>l <+: down xs.length) xs.length w
def QcP{t:Array Value}(h:p<t.size):(t.setIfInBounds p v).getD q undef=if p=q then v else t.getD q undef:=by
 by_cases e:p=q
 ·subst e; simp[h]
 ·simp[e,JQ]
def Qy9 (a:Act) (w:World) (β:Map) (hp:Qa) (n:Nat) (hit:Nat->Bool) (Rr:Nat->Qa->Prop) (e:Exit) (a':Act) (W:World):Prop :=
 ∃ D,w.heap.size<=D/\W.heap[D]? = some (.deferred (some []))/\a' = { a with defers:={ target:=.collected D,args:=#[] } :: a.defers } /\
   ((e = .normal/\(∀ i,i < n->hit i = false)/\Lies w β hp W) \/
    (e=.ret/\∃ i β1 hp',i<n/\hit i=true/\(∀ j,i<j->j<n->hit j=false)/\HeapRel W β1 hp'/\Evo w β hp W β1 hp'/\Rr i hp'))
def Qpr(h:k<(down n).length):((down n)[k]).1+k+1=n:=by
 have hl:(down n).length=n:=by simp[down]
 simp only[down,List.getElem_reverse,List.getElem_finRange,List.length_finRange]
 simp
 omega
def Qnx{n:Nat}{q:List (Fin n)}{i:Fin n}(h:q++[i] <+: down n):∀ j:Fin n,i<j->j∈q:=by
 intro j hij
 have hl:(down n).length=n:=by simp[down]
 have hle:=h.length_le
 rw[Jd,KV,hl] at hle
 have e1:(down n)[q.length]'(by omega)=i:=by
  have:=h.getElem (i:=q.length) (by simp)
  rw[<- this]; simp
 have h1:=Qpr (n:=n) (k:=q.length) (by omega)
 rw[e1] at h1
 have hk:n-1-j.1<q.length:=by have:=j.2; omega
 have e2:=h.getElem (i:=n-1-j.1) (by rw[Jd]; omega)
 have h2:=Qpr (n:=n) (k:=n-1-j.1) (by omega)
 have e3:(down n)[n-1-j.1]'(by omega)=j:=Fin.ext (by have:=j.2; omega)
 rw[e3,List.getElem_append_left hk] at e2
 exact e2▸List.getElem_mem hk
def BodyOf(P:Program)(body:Code)(B:(Exit->St->Prop)->St->Prop):Prop:=
 ∀ (rd:Option Nat) (n:Nat) (Q:Exit->St->Prop) (S:St),B Q S->∀ (O:Org) (β:Map) (a:Act) (w:World),Sim O β S a w->body.wpIn (wd rd) n P (Ql1 O Q) a w
def BodyOf.plain(h:QaL body=true):BodyOf P body (QC P body):=fun _ _ Q S hv O β a w hs=>Q8 body Q S h hv O β a w hs
def QGG(P:Program)(K:Nat)(ops0:Array Oper)(body':Code)(Q:Exit->St->Prop)(S:St):Prop:=
 QC P body' (fun e S'=>match e with | .exit k=>if k=K then vdr P ops0.toList ops0.toList [] (Q .ret) S' else Q (.exit k) S' | e=>Q e S') S
def BodyOf.cut (hm:P.follows .mixedOrders = true) (hB:Qe3 ops0 = true) (hc:CutD K ops0 body body'):BodyOf P body (QGG P K ops0 body'):=fun _ _ Q S hv O β a w hs=>
 QkS hm hB hc _ Q (fun S h=>by simpa using h) (fun e S he h=>by
  cases e with
  | exit k =>
    dsimp only at h
    rw[if_neg (fun e=>he (by rw[e]))] at h
    exact h
  | _=>exact h) S hv O β a w hs
def Qmt(P:Program)(S:St)(assign:Code)(B:(Exit->St->Prop)->St->Prop)(hit:Bool)(Rr:Qa->Prop)(S0:St):Prop :=
 QC P assign (fun e S1=>e=.normal/\S1.hp.take S.hp.length=S.hp /\
  B (fun e S'=>match e with | .normal=>hit=false/\S'.hp.take S.hp.length=S.hp | .ret=>hit=true/\Rr S'.hp | _=>False) { S1 with base:=S1.hp.length }) S0
def QGF (hs:Sim O β S a w) (hgS:S.ev g = .fn (.func gf) [] [cap]) (hf1:P.funcs[gf]? = some fn) (hf2:(fn.name == "runtime.NumGoroutine") = false) (hf3:fn.body.isNone = false) (hV:QF1 P gf cap S.hp xs) (h0:p0 < S.nt) (h1:p1 < S.nt) (hrefs:∀ (k:Nat) (B:Blk),S.hp[k]? = some B->DV.refs.go S.hp.length B.cells = true) (hit:Nat->Bool) (Rr:Nat->Qa->Prop) (hpa:QaL assign = true) (hB:BodyOf P body B) (hbody:∀ i,i < xs.length->Qmt P S assign B (hit i) (Rr i) ⟨S.nt,S.hp.length,(p1,Qy3 xs i) :: (p0,.int .i64 i) :: S.tm,S.hp⟩):
 (Code.rangeFunc g #[p0,p1] assign body).wp P (Qy9 a w β S.hp xs.length hit Rr) a w:=by
 have hgv:=hs.ev g
 rw[hgS] at hgv
 generalize hv:a.eval g=gv at hgv
 cases hgv with
 | fn _ _ _ vs us l1 l2 r1 r2=>
 have hvs:vs=#[]:=Kc l1.symm
 subst hvs
 obtain⟨vcap,rfl⟩:∃ vcap,us=#[vcap]:=by
  have:us.toList.length=1:=by simpa using l2.symm
  obtain⟨x,hx⟩:=List.length_eq_one_iff.1 this
  exact⟨x,by rw[<- Array.toArray_toList (xs:=us),hx]⟩
 have hcap:RelD w β S.hp cap vcap:=r2 0 cap rfl
 obtain⟨V,hVr,hseq⟩:=hV w β vcap hs.heap hcap
 have hsz:=hs.size
 rw[<- wpIn_wide (n:=10)]
 refine wpIn_rangeFunc_ownH (F:=Fence.wide) (n:=10) rfl (by decide) (gf:=gf) (lb:=#[vcap]) hv trivial (fun args w=>Qca hf1 hf2 hf3 args w) hseq (fun h k x=>k (h x))
  (fun W l o o' hl ho hc _ hL=>hL.grown (grownBy_putObj' W l o') (fun r e=>by cases e; exact⟨hl,o,ho,hc⟩)) (Below.refl _ _) (fun _=>rfl)
  (fun pre W=>Lies w β S.hp W/\∀ i∈pre,hit i.1=false)
  (fun c pre W=>c=.ret/\∃ (q:List (Fin xs.length)) (i:Fin xs.length) (β1:Map) (hp':Qa),pre=q++[i]/\(∀ j∈q,hit j.1=false)/\hit i.1=true/\HeapRel W β1 hp'/\Evo w β S.hp W β1 hp'/\Rr i.1 hp')
  (fun s A B row h hg hr=>⟨h.1.grown hg hr,h.2⟩)
  (fun c s A B row h hg hr=>by
   obtain⟨hc,q,i,β1,hp',e1,e2,e3,e4,e5,e6⟩:=h
   exact⟨hc,q,i,β1,hp',e1,e2,e3,e4.up (Up.grown hg fun r h=>(hr r h).2),e5.grown hg hr,e6⟩)
  ⟨⟨β,hs.heap,Evo.refl _ _ _⟩,by simp⟩
  (fun i a' W=>∃ (β1:Map) (S1:St),a'.defers = []/\a'.tmps.size = S1.nt/\(∀ t,RelD W β1 S1.hp (look S1.tm t) (a'.tmps.getD t undef))/\HeapRel W β1 S1.hp/\Evo w β S.hp W β1 S1.hp /\
   B (fun e S'=>match e with | .normal=>hit i.1=false/\S'.hp.take S.hp.length=S.hp | .ret=>hit i.1=true/\Rr i.1 S'.hp | _=>False) { S1 with base:=S1.hp.length })
  (fun i a' s A B row h hg hr=>by
   obtain⟨β1,S1,e1,e2,e3,e4,e5,e6⟩:=h
   have u:=Up.grown hg fun r h=>(hr r h).2
   exact⟨β1,S1,e1,e2,fun t=>(e3 t).up u,e4.up u,e5.grown hg hr,e6⟩)
  ?assign ?body ?done ?stop
 case assign=>
  rintro l pre i W K ⟨⟨β1,hh,ev⟩,hpre⟩ hK
  have e1:(Array.zip #[p0,p1] #[Value.int .i64 (i.1:Int),V i.1]).foldl (fun(t:Array Value) (x:Tmp×Value)=>t.setIfInBounds x.1 x.2) a.tmps=(a.tmps.setIfInBounds p0 (.int .i64 (i.1:Int))).setIfInBounds p1 (V i.1):=by simp
  rw[e1]
  have hx:=(hVr i.1 i.2).mono ev
  have hsim:Sim ⟨W,β1,S.hp,[]⟩ β1 ⟨S.nt,S.hp.length,(p1,Qy3 xs i.1)::(p0,.int .i64 i.1)::S.tm,S.hp⟩ { tmps:=(a.tmps.setIfInBounds p0 (.int .i64 (i.1:Int))).setIfInBounds p1 (V i.1),defers:=[] } W:=by
   refine⟨rfl,by simpa using hsz,fun t=>?_,hh,Evo.refl _ _ _,rfl⟩
   dsimp only
   rw[QcP (by simpa [hsz] using h1),QcP (by simpa [hsz] using h0)]
   simp only[look]
   split
   ·exact hx
   split
   ·exact .pv _ _ (.lit _ rfl)
   ·exact(hs.tm t).mono ev
  refine wpIn_mono (Q8 (rd:=some l) (n:=8) assign _ _ hpa (hbody i.1 i.2) _ _ _ _ hsim) ?_
  rintro e a' W' ⟨β2,S1,hs1,rfl,hq,hc⟩
  have hL:Lies w β S.hp W':=⟨β2,hs1.heap.pre hq hrefs,(ev.trans hs1.evo).pre (Jp _) hq⟩
  exact hK a' W' ((Evo.others hh hs1.evo).from _) (fun _=>hL) ⟨hL,hpre⟩ ⟨β2,S1,hs1.defers,hs1.size,hs1.tm,hs1.heap,ev.trans hs1.evo,hc⟩
 case body=>
  rintro l pre i a' W hl _ ⟨hL0,hpre⟩ ⟨β1,S1,e1,e2,e3,hh,ev,hc⟩ hlen
  have hsim:Sim ⟨W,β1,S1.hp,[]⟩ β1 { S1 with base:=S1.hp.length } a' W:=⟨e1,e2,e3,hh,Evo.refl _ _ _,rfl⟩
  refine wpIn_mono (hB (some l) 8 _ _ hc _ _ _ _ hsim) ?_
  rintro e a'' W' ⟨β2,S',hs',hq⟩
  have hoth:KeepsFrom w.heap.size W W':=(Evo.others hh hs'.evo).from _
  have hev:Evo w β S.hp W' β2 S'.hp:=ev.trans hs'.evo
  cases e with
  | normal =>
    have hL:Lies w β S.hp W':=⟨β2,hs'.heap.pre hq.2 hrefs,hev.pre (Jp _) hq.2⟩
    exact⟨hoth,fun _=>hL,hL,fun j hj=>by
     rcases KC.1 hj with hj | hj
     ·exact hpre j hj
     ·rw[List.mem_singleton.1 hj]; exact hq.1⟩
  | ret=>exact⟨hoth,rfl,pre,i,β2,S'.hp,rfl,hpre,hq.1,hs'.heap,hev,hq.2⟩
  | _=>exact hq.elim
 case done=>
  rintro D ys W hD rfl ⟨hL,hall⟩ hK
  exact⟨D,hD,hK,rfl,.inl ⟨rfl,fun i hi=>hall ⟨i,hi⟩ (by simp[down]),hL⟩⟩
 case stop=>
  rintro D c pre W hD hSp ⟨rfl,q,i,β1,hp',rfl,e2,e3,e4,e5,e6⟩ hK
  refine wpIn_ret ⟨D,hD,hK,rfl,.inr ⟨rfl,i.1,β1,hp',i.2,e3,fun j hij hj=>?_,e4,e5,e6⟩⟩
  exact e2 ⟨j,hj⟩ (Qnx hSp ⟨j,hj⟩ hij)
end Go.V
namespace Go.V
structure SimE(O:Org)(β:Map)(S:St)(a:Act)(w:World):Prop where
 size:a.tmps.size=S.nt
 tm:∀ t,RelD w β S.hp (look S.tm t) (a.tmps.getD t undef)
 heap:HeapRel w β S.hp
 evo:Evo O.w O.β O.hp w β S.hp
 mark:a.defers=O.ds\/∃ D,a.defers={ target:=.collected D,args:=#[] }::O.ds/\w.heap[D]?=some (.deferred (some []))/\O.w.heap.size<=D
def St.reb(S:St):St:={ S with base:=S.hp.length }
def SimE.reb(h:SimE O β S a w):Sim ⟨w,β,S.hp,a.defers⟩ β S.reb a w:=⟨rfl,h.size,h.tm,h.heap,Evo.refl _ _ _,rfl⟩
def SimE.on(h:SimE O β S a w)(h':Sim ⟨w,β,S.hp,a.defers⟩ β' S' a' w'):SimE O β' S' a' w':=by
 refine⟨h'.size,h'.tm,h'.heap,h.evo.trans h'.evo,?_⟩
 rw[h'.defers]
 rcases h.mark with e | ⟨D,e,hD,hl⟩
 ·exact .inl e
 ·exact .inr ⟨D,e,(Evo.others h.heap h'.evo).same D _ hD rfl,hl⟩
def QE6(O:Org)(Q:Exit->St->Prop):Exit->Act->World->Prop:=fun e a w=>∃ β S,SimE O β S a w/\Q e S
def VWpE(P:Program)(c:Code)(Q:Exit->St->Prop)(S:St):Prop:=∀ (O:Org) (β:Map) (a:Act) (w:World),SimE O β S a w->c.wp P (QE6 O Q) a w
def VWp0(P:Program)(c:Code)(Q:Exit->St->Prop)(S:St):Prop:=∀ (O:Org) (β:Map) (a:Act) (w:World),SimE O β S a w->a.defers=O.ds->c.wp P (QE6 O Q) a w
def VWpE.plain(h:QC P c Q S.reb):VWpE P c Q S:=fun O β a w hs=>
 wp_mono (QA c Q _ h _ _ _ _ hs.reb) fun _ _ _ ⟨β',S',h',q⟩=>⟨β',S',hs.on h',q⟩
def VWp0.first(h:QC P x (Qag Q (VWp0 P y Q)) S.reb):VWp0 P (.seq x y) Q S:=fun O β a w hs hd=>by
 refine wp_seq (wp_mono (QA x _ _ h _ _ _ _ hs.reb) fun e a' w' hq=>?_)
 obtain⟨β',S',h',q⟩:=hq
 cases e with
 | normal=>exact q O β' a' w' (hs.on h') (h'.defers.trans hd)
 | _=>exact⟨β',S',hs.on h',q⟩
def VWp0.then(h:VWp0 P x (Qag Q (VWpE P y Q)) S):VWp0 P (.seq x y) Q S:=fun O β a w hs hd=>by
 refine wp_seq (wp_mono (h O β a w hs hd) fun e a' w' hq=>?_)
 obtain⟨β',S',h',q⟩:=hq
 cases e with
 | normal=>exact q O β' a' w' h'
 | _=>exact⟨β',S',h',q⟩
def VWp0.block {id:Nat} (h:VWp0 P c (QaG id Q) S):VWp0 P (.block id c) Q S:=fun O β a w hs hd=>by
 refine wp_block (wp_mono (h O β a w hs hd) fun e a' w' hq=>?_)
 obtain⟨β',S',hs',hq⟩:=hq
 cases e with
 | exit id' =>
   simp only[QaG] at hq
   simp only[Exit.inBlock]
   split
   ·rename_i he; rw[if_pos he] at hq; exact⟨β',S',hs',hq⟩
   ·rename_i he; rw[if_neg he] at hq; exact⟨β',S',hs',hq⟩
 | _=>exact⟨β',S',hs',hq⟩
def VWp0.down(hgS:S.ev g=.fn (.func gf) [] [cap])(hf1:P.funcs[gf]?=some fn)(hf2:(fn.name == "runtime.NumGoroutine")=false)(hf3:fn.body.isNone=false)(hV:QF1 P gf cap S.hp xs)(h0:p0<S.nt)(h1:p1<S.nt)(hrefs:∀ (k:Nat) (B:Blk),S.hp[k]?=some B->DV.refs.go S.hp.length B.cells=true)(hit:Nat->Bool)(Rr:Nat->Qa->Prop)(hpa:QaL assign=true)(hB:BodyOf P body B)(hbody:∀ i,i<xs.length->Qmt P S assign B (hit i) (Rr i) ⟨S.nt,S.hp.length,(p1,Qy3 xs i)::(p0,.int .i64 i)::S.tm,S.hp⟩)(hdone:(∀ i,i<xs.length->hit i=false)->Q .normal S)(hret:∀ i hp',i<xs.length->hit i=true->(∀ j,i<j->j<xs.length->hit j=false)->Rr i hp'->Q .ret { S with hp:=hp' }):
 VWp0 P (Code.rangeFunc g #[p0,p1] assign body) Q S:=fun O β a w hs hd=>by
 refine wp_mono (QGF (hs.reb) hgS hf1 hf2 hf3 hV h0 h1 hrefs hit Rr hpa hB hbody) ?_
 rintro e a' W ⟨D,hD,hK,rfl,⟨rfl,hall,β1,hh,ev⟩ | ⟨rfl,i,β1,hp',hi,hhit,hno,hh,ev,hR⟩⟩
 ·exact⟨β1,S,⟨hs.size,fun t=>(hs.tm t).mono ev,hh,hs.evo.trans ev,.inr ⟨D,by rw[hd],hK,Kp hs.evo.size hD⟩⟩,hdone hall⟩
 ·exact⟨β1,{ S with hp:=hp' },⟨hs.size,fun t=>(hs.tm t).mono ev,hh,hs.evo.trans ev,.inr ⟨D,by rw[hd],hK,Kp hs.evo.size hD⟩⟩,hret i hp' hi hhit hno hR⟩
def QgI (hf:P.funcs[g]? = some fn) (hb:fn.body = some c) (hname:(fn.name == "runtime.NumGoroutine") = false) (hn:args.length<=fn.ntmps) (hc:VWp0 P c (Qc4 P fn.results.toList h.length R) ⟨fn.ntmps,h.length,QhT 0 args,h⟩):VCalls P g args h R:=by
 refine⟨fun w β vs hh ha=>.inl ⟨fn,hf,hname,by rw[hb]; rfl,?_⟩⟩
 refine callsIn_wide.1 (callsIn_of_wp_marks (n:=1) hf hb trivial (wpIn_wide.2 ?_))
 have hsz:vs.size=args.length:=ha.1.symm
 have hs:SimE ⟨w,β,h,[]⟩ β ⟨fn.ntmps,h.length,QhT 0 args,h⟩ { tmps:=vs ++ JP (fn.ntmps - vs.size) undef,defers:=[] } w:=by
  refine⟨by simp; omega,fun t=>?_,hh,Evo.refl w β h,.inl rfl⟩
  rw[QlW,if_pos (J7 _),Nat.sub_zero]
  cases ht:args[t]? with
  | none=>exact .any _
  | some d =>
    have hlt:t<vs.size:=by rw[hsz]; exact(Jf.1 ht).1
    have e:(vs++JP (fn.ntmps-vs.size) undef).getD t undef=vs.getD t undef:=by
     simp only[JQ]; rw[Array.getElem?_append_left hlt]
    show RelD w β h d ((vs++JP (fn.ntmps-vs.size) undef).getD t undef)
    rw[e]
    exact ha.2 t d ht
 refine wp_mono (hc _ β _ w hs rfl) fun e a' w' hq=>?_
 obtain⟨β',S',hs',hq⟩:=hq
 -- the end,in a world that is the same but for blocks without cells
 have fin:∀ W',Up w' W'->Evo w β h W' β' S'.hp->∀ d,QY P S' fn.results.toList=some d->Qv9 h.length S'.hp d R->∃ v,(results fn a'.tmps).run P W'=.ok v W'/\∃ v' r h' β'',Ending.returned v=.returned v'/\Evo w β h W' β'' h'/\HeapRel W' β'' h'/\RelD W' β'' h' r v'/\R r h':=by
  intro W' u ev d hr hend
  have hsim:Sim ⟨W',β',S'.hp,a'.defers⟩ β' S'.reb a' W':=⟨rfl,hs'.size,fun t=>(hs'.tm t).up u,hs'.heap.up u,Evo.refl _ _ _,rfl⟩
  obtain⟨v,r1,r2⟩:=Qd3 (P:=P) (fn:=fn) (d:=d) hsim (by
   have e:QmL P S'.reb=QmL P S':=by funext r; cases r<;>rfl
   unfold QY at hr |-
   rw[e]; exact hr)
  obtain⟨d',hp',k1,k2,k3,k4,k5⟩:=QdA (hs'.heap.up u) ev.len r2 hend
  exact⟨v,r1,v,d',hp',β',rfl,⟨ev.os,ev.tape,ev.output,ev.size,by omega,ev.beta,ev.same,ev.shape,fun b hb hl=>ev.im b hb (k5 b hl),ev.X⟩,k3,k2,k1⟩
 have key:(∃ d,QY P S' fn.results.toList=some d/\Qv9 h.length S'.hp d R)->LeavesInM Fence.wide 1 P fn a'.tmps (fun e w'=>∃ v r h' β',e=.returned v/\Evo w β h w' β' h'/\HeapRel w' β' h'/\RelD w' β' h' r v/\R r h') a'.defers .returning w':=by
  rintro⟨d,hr,hend⟩
  rcases hs'.mark with e0 | ⟨D,e0,hD,hl⟩
  ·rw [e0]
   exact fin w' ⟨Jp _,fun _ _ _ _ h=>h⟩ hs'.evo d hr hend
  ·rw [e0]
   refine⟨by simp,.inl ⟨D,_,rfl,run_takeDeferred hD,?_⟩⟩
   have hg:=grownBy_putObj' w' D (.deferred none)
   have hg2:∀ r,some D=some r->w.heap.size<=r/\∃ o:Obj,w'.heap[r]?=some o/\o.isCells=false:=fun r e=>by cases e; exact⟨hl,_,hD,rfl⟩
   exact fin _ (Up.grown hg fun r h=>(hg2 r h).2) (hs'.evo.grown hg hg2) d hr hend
 unfold Qc4 at hq
 cases e with
 | normal =>
   dsimp only at hq
   split at hq
   ·rename_i d hd; exact key ⟨d,hd,hq⟩
   ·exact hq.elim
 | ret =>
   dsimp only at hq
   split at hq
   ·rename_i d hd; exact key ⟨d,hd,hq⟩
   ·exact hq.elim
 | _=>exact hq.elim
end Go.V
namespace Go.V
def Stable(G:World->World->Map->Qa->Prop):Prop:=∀ (w0 w:World) (β:Map) (hp:Qa) (w':World) (β':Map) (hp':Qa),HeapRel w β hp->Evo w β hp w' β' hp'->G w0 w β hp->G w0 w' β' hp'
def Stable.and(h:Stable G)(h':Stable G'):Stable (fun w0 w β hp=>G w0 w β hp/\G' w0 w β hp):=fun w0 w β hp w' β' hp' hh e q=>⟨h w0 w β hp w' β' hp' hh e q.1,h' w0 w β hp w' β' hp' hh e q.2⟩
structure SimG(G:World->World->Map->Qa->Prop)(O:Org)(β:Map)(S:St)(a:Act)(w:World):Prop where
 defers:a.defers=O.ds
 size:a.tmps.size=S.nt
 tm:∀ t,RelD w β S.hp (look S.tm t) (a.tmps.getD t undef)
 heap:HeapRel w β S.hp
 evo:Evo O.w O.β O.hp w β S.hp
 g:G O.w w β S.hp
def SimG.reb(h:SimG G O β S a w):Sim ⟨w,β,S.hp,a.defers⟩ β S.reb a w:=⟨rfl,h.size,h.tm,h.heap,Evo.refl _ _ _,rfl⟩
def SimG.on(hG:Stable G)(h:SimG G O β S a w)(h':Sim ⟨w,β,S.hp,a.defers⟩ β' S' a' w'):SimG G O β' S' a' w':=
 ⟨h'.defers.trans h.defers,h'.size,h'.tm,h'.heap,h.evo.trans h'.evo,hG _ _ _ _ _ _ _ h.heap h'.evo h.g⟩
variable {P:Program} {γ:Type} {Γ:γ->World->World->Map->Qa->Prop}
def Qud(Γ:γ->World->World->Map->Qa->Prop)(O:Org)(Q:Exit->St->γ->Prop):Exit->Act->World->Prop:=fun e a w=>∃ β S g,SimG (Γ g) O β S a w/\Q e S g
def VWpG(P:Program)(Γ:γ->World->World->Map->Qa->Prop)(c:Code)(Q:Exit->St->γ->Prop)(S:St)(g:γ):Prop:=∀ (O:Org) (β:Map) (a:Act) (w:World),SimG (Γ g) O β S a w->c.wp P (Qud Γ O Q) a w
def Qcv(Q:Exit->St->γ->Prop)(K:St->γ->Prop):Exit->St->γ->Prop
 | .normal,S,g=>K S g
 | e,S,g=>Q e S g
def Qgr(id:Nat)(Q:Exit->St->γ->Prop):Exit->St->γ->Prop
 | .exit id',S,g=>if id'=id then Q .normal S g else Q (.exit id') S g
 | e,S,g=>Q e S g
theorem VWpG.plain(hΓ:∀ g,Stable (Γ g))(h:QC P c (fun e S'=>Q e S' g) S.reb):VWpG P Γ c Q S g:=fun _ _ _ _ hs=>
 wp_mono (QA c _ _ h _ _ _ _ hs.reb) fun _ _ _ ⟨β',S',h',q⟩=>⟨β',S',g,hs.on (hΓ g) h',q⟩
theorem VWpG.seq(h:VWpG P Γ x (Qcv Q (VWpG P Γ y Q)) S g):VWpG P Γ (.seq x y) Q S g:=fun O β a w hs=>by
 refine wp_seq (wp_mono (h O β a w hs) fun e a' w' hq=>?_)
 obtain⟨β',S',g',h',q⟩:=hq
 cases e with
 | normal=>exact q O β' a' w' h'
 | _=>exact⟨β',S',g',h',q⟩
theorem VWpG.first(hΓ:∀ g,Stable (Γ g))(h:QC P x (fun e S'=>Qcv Q (VWpG P Γ y Q) e S' g) S.reb):VWpG P Γ (.seq x y) Q S g:=(VWpG.plain hΓ h).seq
theorem VWpG.block {id:Nat} (h:VWpG P Γ c (Qgr id Q) S g):VWpG P Γ (.block id c) Q S g:=fun O β a w hs=>by
 refine wp_block (wp_mono (h O β a w hs) fun e a' w' hq=>?_)
 obtain⟨β',S',g',hs',hq⟩:=hq
 cases e with
 | exit id' =>
   simp only[Qgr] at hq
   simp only[Exit.inBlock]
   split
   ·rename_i he; rw[if_pos he] at hq; exact⟨β',S',g',hs',hq⟩
   ·rename_i he; rw[if_neg he] at hq; exact⟨β',S',g',hs',hq⟩
 | _=>exact⟨β',S',g',hs',hq⟩
theorem VWpG.cond(ht:S.ev c=.pv (.lit (.bool t)))(h1:t=true->VWpG P Γ x Q S g)(h2:t=false->VWpG P Γ y Q S g):VWpG P Γ (.cond c x y) Q S g:=fun O β a w hs=>by
 have hc:=hs.reb.ev c
 have e:S.reb.ev c=S.ev c:=by cases c<;>rfl
 rw[e,ht] at hc
 exact wp_cond_split (Qk hc) (fun q=>h1 q O β a w hs) (fun q=>h2 q O β a w hs)
def WeakG(Γ:γ->World->World->Map->Qa->Prop)(S:St)(g:γ)(S':St)(g':γ):Prop:=∀ (O:Org) (β:Map) (a:Act) (w:World),SimG (Γ g) O β S a w->∃ β',SimG (Γ g') O β' S' a w
theorem VWpG.loop {c:Code} {Q:Exit->St->γ->Prop} {g:γ} {ι:Type} (I:ι->St) (J:ι->γ) (μ:ι->Nat) (i₀:ι) (h₀:WeakG Γ S g (I i₀) (J i₀)) (round:∀ i,VWpG P Γ c (Qcv Q fun S' g'=>∃ j,μ j < μ i/\WeakG Γ S' g' (I j) (J j)) (I i) (J i)):VWpG P Γ (.loop c) Q S g:=by
 intro O β a w hs b k cs
 have key:∀ n β i a w,μ i = n->SimG (Γ (J i)) O β (I i) a w ->
  ∃ e a' w',Qud Γ O Q e a' w'/\Arrives P (lone (b.at a (.code c::.inLoop c::k)) cs w) b k cs e a' w':=by
  intro n
  induction n using KF with
  | _ n ih =>
    intro β i a w hn hs
    obtain⟨e,a₁,w₁,hq,harr⟩:=round i O β a w hs b (.inLoop c::k) cs
    obtain⟨β₁,S₁,g₁,hs₁,hq⟩:=hq
    cases e with
    | normal =>
      obtain⟨j,hlt,hle⟩:=hq
      obtain⟨β₂,hs₂⟩:=hle _ _ _ _ hs₁
      obtain⟨e₂,a₂,w₂,hq₂,harr₂⟩:=ih (μ j) (hn▸hlt) β₂ j a₁ w₁ rfl hs₂
      exact⟨e₂,a₂,w₂,hq₂,.of_steps (Steps.trans harr (.one step_inLoop)) harr₂⟩
    | exit id=>exact⟨_,a₁,w₁,⟨β₁,S₁,g₁,hs₁,hq⟩,.pass (x:=.inLoop c) rfl (fun _ _=>.inl (by simp)) harr⟩
    | goto l=>exact⟨_,a₁,w₁,⟨β₁,S₁,g₁,hs₁,hq⟩,.pass (x:=.inLoop c) rfl (fun _ _=>.inl (by simp)) harr⟩
    | ret=>exact⟨_,a₁,w₁,⟨β₁,S₁,g₁,hs₁,hq⟩,.pass (x:=.inLoop c) rfl (fun _ _=>.inl (by simp)) harr⟩
    | panic ch=>exact⟨_,a₁,w₁,⟨β₁,S₁,g₁,hs₁,hq⟩,.pass (x:=.inLoop c) rfl (fun _ _=>.inl (by simp)) harr⟩
    | outgrown=>exact⟨_,a₁,w₁,⟨β₁,S₁,g₁,hs₁,hq⟩,.pass (x:=.inLoop c) rfl (fun _ _=>.inl (by simp)) harr⟩
 obtain⟨β₀,hs₀⟩:=h₀ _ _ _ _ hs
 obtain⟨e,a',w',hq,harr⟩:=key _ β₀ i₀ a w rfl hs₀
 exact⟨e,a',w',hq,.of_steps (.one step_loop) harr⟩
theorem WeakG.of(hw:∀ w0 w β hp β' hp',Γ g w0 w β hp->Γ g w0 w β' hp')(h:Qro S.reb { S' with base:=S.hp.length }):WeakG Γ S g S' g:=fun O β a w hs=>by
 obtain⟨β',h'⟩:=hs.reb.weak h
 exact⟨β',h'.defers.trans hs.defers,h'.size,h'.tm,h'.heap,hs.evo.trans h'.evo,hw _ _ _ _ _ _ hs.g⟩
end Go.V
namespace Go.V
open Go.MapKept
end Go.V
namespace Go.V
variable {P:Program} {γ:Type} {Γ:γ->World->World->Map->Qa->Prop}
def OpG (P:Program) (Γ:γ->World->World->Map->Qa->Prop) (ops:Array Oper) (o:Oper) (K:St->γ->Prop) (S:St) (g:γ):Prop :=
 ∀ (n:Nat) (Q:Exit->Act->World->Prop) (next:Act->World->Prop) (O:Org) (β:Map) (a:Act) (w:World),SimG (Γ g) O β S a w ->
   (∀ β' S' g' a' w',SimG (Γ g') O β' S' a' w'->K S' g'->next a' w') ->
   if Region.wanted o (yielded ops a.tmps)=true then o.wpIn (wd none) n P a w next Q else next (a.put o.dst undef) w
def Qbw:List (List Oper×Option Oper)->List Oper
 | []=>[]
 | (A,none)::r=>A++Qbw r
 | (A,some o)::r=>A++o::Qbw r
def QAJ(P:Program)(Γ:γ->World->World->Map->Qa->Prop)(ops:Array Oper):List (List Oper×Option Oper)->(St->γ->Prop)->St->γ->Prop
 | [],K,S,g=>K S g
 | (A,none)::r,K,S,g=>Qar P ops.toList A (fun S1=>QAJ P Γ ops r K S1 g) S.reb
 | (A,some o)::r,K,S,g=>Qar P ops.toList A (fun S1=>OpG P Γ ops o (QAJ P Γ ops r K) S1 g) S.reb
theorem Qfb (hΓ:∀ g,Stable (Γ g)) (hK:∀ β S g a w,SimG (Γ g) O β S a w->K S g->Q .normal a w):
 ∀ (ch:List (List Oper × Option Oper)) (pre:List Oper),ops.toList = pre ++ Qbw ch->∀ (β:Map) (S:St) (g:γ) (a:Act) (w:World),SimG (Γ g) O β S a w->QAJ P Γ ops ch K S g ->
   wpOpsIn (wd none) n P ops Q (J0 pre.length (Qbw ch).length) a w
 | [],pre,_,β,S,g,a,w,hs,h=>by
   simp only[Qbw,Jg,Ub,wpOpsIn]
   exact hK β S g a w hs h
 | (A,none) :: r,pre,hops,β,S,g,a,w,hs,h=>by
   have e:J0 pre.length (Qbw ((A,none)::r)).length=J0 pre.length A.length++J0 (pre++A).length (Qbw r).length:=by
    simp only[Qbw,Jd]
    rw[<- Kw]
   rw[e]
   refine QaS (P:=P) (rd:=none) (n:=n) (ops:=ops) (Q:=Q) (T:=fun _=>True) (fun _ _ _ _ _=>trivial) ?_ A pre (Qbw r) (by rw[hops]; simp[Qbw]) β S.reb a w hs.reb trivial h
   intro β1 S1 a1 w1 hs1 _ h1
   exact Qfb hΓ hK r (pre++A) (by rw[hops]; simp[Qbw]) β1 S1 g a1 w1 (hs.on (hΓ g) hs1) h1
 | (A,some o) :: r,pre,hops,β,S,g,a,w,hs,h=>by
   have e:J0 pre.length (Qbw ((A,some o)::r)).length=J0 pre.length A.length++((pre++A).length::J0 (pre++A++[o]).length (Qbw r).length):=by
    simp only[Qbw,Jd,Je,Jg]
    rw[show(pre.length+A.length)::J0 (pre.length+A.length+(0+1)) (Qbw r).length=J0 (pre.length+A.length) ((Qbw r).length+1) by rw[Uc],<- Kw]
   rw[e]
   refine QaS (P:=P) (rd:=none) (n:=n) (ops:=ops) (Q:=Q) (T:=fun _=>True) (fun _ _ _ _ _=>trivial) ?_ A pre (o::Qbw r) (by rw[hops]; simp[Qbw]) β S.reb a w hs.reb trivial h
   intro β1 S1 a1 w1 hs1 _ h1
   have hidx:ops[(pre++A).length]?=some o:=by
    have:ops.toList[(pre++A).length]?=some o:=by rw[hops]; simp[Qbw]
    simpa using this
   have:=h1 n Q (wpOpsIn (wd none) n P ops Q (J0 (pre++A++[o]).length (Qbw r).length)) O β1 a1 w1 (hs.on (hΓ g) hs1) (fun β' S' g' a' w' hs' hk=>Qfb hΓ hK r (pre++A++[o]) (by rw[hops]; simp[Qbw]) β' S' g' a' w' hs' hk)
   simp only[wpOpsIn,hidx]
   split
   ·rename_i hw; rw[if_pos hw] at this; exact this
   ·rename_i hw; rw[if_neg hw] at this; exact⟨fun _ _=>trivial,this⟩
theorem VWpG.region(hΓ:∀ g,Stable (Γ g)){id:Nat}(ch:List (List Oper×Option Oper))(hch:ops.toList=Qbw ch)(h:QAJ P Γ ops ch (Q .normal) S g):VWpG P Γ (.region id ops false) Q S g:=fun O β a w hs=>by
 rw[<- wpIn_wide (n:=10)]
 refine wpIn_region (F:=wd none) ?_
 have:=Qfb (n:=10) (P:=P) hΓ (Q:=Qud Γ O Q) (O:=O) (fun β S g a w h1 h2=>⟨β,S,g,h1,h2⟩) ch [] (by simpa using hch) β S g a w hs h
 rw[<- hch] at this
 simpa [J8] using this
theorem SimG.put (h:SimG G O β S a w) (u:Up w w') (ev:Evo O.w O.β O.hp w' β S.hp) (hf:S.fits dst = true) (hd:RelD w' β S.hp d v) (h6:G' O.w w' β S.hp):SimG G' O β (S.put dst d) (a.put dst v) w':=by
 refine⟨by rw[Qct]; exact h.defers,?_,fun t=>?_,by rw[St.put_hp]; exact h.heap.up u,by rw[St.put_hp]; exact ev,by rw[St.put_hp]; exact h6⟩
 ·rw[QdK,St.put_nt]; exact h.size
 ·rw [St.put_hp]
  cases dst with
  | none=>exact(h.tm t).up u
  | some t0 =>
    have hlt:t0<a.tmps.size:=by rw[h.size]; simpa [St.fits] using hf
    simp only[St.put,look,Act.put]
    split
    ·rename_i e
     subst e
     simpa [JQ,hlt] using hd
    ·rename_i e
     have:=(h.tm t).up u
     simpa [JQ,Array.getElem?_setIfInBounds,e] using this
theorem QkF(hs:SimG G O β S a w)(hG:QK ops.toList S o=some b):Region.wanted o (yielded ops a.tmps)=b:=by
 refine QS (ops:=ops) hs.reb ?_
 rw[<- hG]; rfl
theorem QFu(hs:SimG G O β S a w)(x:Operand):RelD w β S.hp (Qs true (S.ev x)) (a.eval x):=by
 have e:S.reb.ev x=S.ev x:=by cases x<;>rfl
 exact Qaq (e▸hs.reb.ev x) rfl
end Go.V
namespace Go.V
open Go.MapKept
structure EvoC(w:World)(β:Map)(hp:Qa)(w':World)(β':Map)(hp':Qa):Prop where
 size:w.heap.size<=w'.heap.size
 len:hp.length<=hp'.length
 beta:∀ k,k<hp.length->β'.f k=β.f k
 same:∀ (b:Nat) (C:Array Value) (T:TypeId) (m:Nat×Nat),w.heap[b]?=some (.cells C T m)->¬ live β hp b->w'.heap[b]?=w.heap[b]?
 shape:∀ (b:Nat) (C:Array Value) (T:TypeId) (m:Nat×Nat),w.heap[b]?=some (.cells C T m)->∃ C' m',w'.heap[b]?=some (.cells C' T m')/\C'.size=C.size
 im:∀ b,b<w.heap.size->live β' hp' b->live β hp b
 X:β'.X=β.X
def Evo.toC(e:Evo w β hp w' β' hp'):EvoC w β hp w' β' hp':=
 ⟨e.size,e.len,e.beta,fun b _ _ _ h hl=>e.same b (Jh.1 h).1 hl,e.shape,e.im,e.X⟩
def EvoC.refl(w:World)(β:Map)(hp:Qa):EvoC w β hp w β hp:=(Evo.refl w β hp).toC
def Up.toC(u:Up w w')(β:Map)(hp:Qa):EvoC w β hp w' β hp:=
 ⟨u.size,Jp _,fun _ _=>rfl,fun b C T m h _=>by rw[u.same b C T m h,h],fun b C T m h=>⟨C,m,u.same b C T m h,rfl⟩,fun _ _ h=>h,rfl⟩
def EvoC.trans{w0 w1 w2:World}{β0 β1 β2:Map}{h0 h1 h2:Qa}(a:EvoC w0 β0 h0 w1 β1 h1)(b:EvoC w1 β1 h1 w2 β2 h2):EvoC w0 β0 h0 w2 β2 h2:=by
 refine⟨Kp a.size b.size,Kp a.len b.len,fun k hk=>by rw[b.beta k (Jk hk a.len),a.beta k hk],fun x C T m h hl=>?_,fun x C T m h=>?_,fun x hx h=>a.im x hx (b.im x (Jk hx a.size) h),b.X.trans a.X⟩
 ·have e1:=a.same x C T m h hl
  rw[b.same x C T m (e1.trans h) (fun h'=>hl (a.im x (Jh.1 h).1 h')),e1]
 ·obtain ⟨C',m',h',e⟩:=a.shape x C T m h
  obtain⟨C'',m'',h'',e'⟩:=b.shape x C' T m' h'
  exact⟨C'',m'',h'',e'.trans e⟩
def QhE{w w':World}{a:Addr}(h:w.cell? a=some v)(hs:∀ (C:Array Value) (T:TypeId) (m:Nat×Nat),w.heap[a.block]?=some (.cells C T m)->w'.heap[a.block]?=w.heap[a.block]?):w'.cell? a=some v:=by
 obtain⟨o,ho,hc⟩:=cells_of_cell h
 cases o with
 | cells C T m=>rw[Qdv (hs C T m ho)]; exact h
 | _=>simp[Obj.isCells] at hc
def RelP.monoC (h:RelP w im p v) (hsz:w.heap.size<=w'.heap.size) (hs:∀ (b:Nat) (C:Array Value) (T:TypeId) (m:Nat × Nat),w.heap[b]? = some (.cells C T m)->¬ im b->w'.heap[b]? = w.heap[b]?) (hi:∀ b,b < w.heap.size->im' b->im b):RelP w' im' p v:=by
 induction h with
 | lit v h=>exact .lit v h
 | str l=>exact .str l
 | sl xs a cap sz val h1 h2 h3 h4 h5 _ ih =>
   refine .sl xs a cap sz val h1 h2 h3 h4 (fun i j c d hc hd=>?_) (fun i j c d hc hd=>ih i j c d hc hd)
   obtain⟨ad,e,hb,hn,hcell⟩:=h5 i j c d hc hd
   exact⟨ad,e,Jk hb hsz,fun x=>hn (hi _ hb x),QhE hcell fun C T m h=>hs _ C T m h hn⟩
 | slc xs a sz val h2 h3 h4 h5 _ ih =>
   refine .slc xs a sz val h2 h3 h4 (fun i j c d hc hd=>?_) (fun i j c d hc hd=>ih i j c d hc hd)
   obtain⟨ad,e,hb,hn,hcell⟩:=h5 i j c d hc hd
   exact⟨ad,e,Jk hb hsz,fun x=>hn (hi _ hb x),QhE hcell fun C T m h=>hs _ C T m h hn⟩
def EvoC.img{w w':World}{β β':Map}{hp hp':Qa}(e:EvoC w β hp w' β' hp'):∀ b,b<w.heap.size->img β' hp' b->img β hp b:=
 fun b h l=>l.imp (fun x=>by rw[<- e.X]; exact x) (e.im b h)
def RelD.monoC (h:RelD w β hp d v) (e:EvoC w β hp w' β' hp'):RelD w' β' hp' d v:=by
 have hs:∀ (b:Nat) (C:Array Value) (T:TypeId) (m:Nat×Nat),w.heap[b]?=some (.cells C T m)->¬ V.img β hp b->w'.heap[b]?=w.heap[b]?:=fun b C T m h n=>e.same b C T m h fun l=>n (.inr l)
 induction h with
 | pv p v h=>exact .pv p v (h.monoC e.size hs e.img)
 | ptr k off b h hb=>exact .ptr k off b (Jk h e.len) ((e.beta k h).trans hb)
 | own k sz off len cap b C T m h hb h1 h2 h3 h4 =>
   obtain⟨C',m',h3',hs⟩:=e.shape _ _ _ _ h3
   exact .own k sz off len cap b C' T m' (Jk h e.len) ((e.beta k h).trans hb) h1 h2 h3' (by rw[hs]; exact h4)
 | ownc k sz off len cap b o C T m h hb h1 h2 h3 h4 h5 =>
   obtain⟨C',m',h3',hs⟩:=e.shape _ _ _ _ h3
   exact .ownc k sz off len cap b o C' T m' (Jk h e.len) ((e.beta k h).trans hb) h1 h2 h3' (by rw[hs]; exact h4) h5
 | own0 k sz a h hb ha=>exact .own0 k sz a (Jk h e.len) ((e.beta k h).trans hb) ha
 | ip cs ad val h1 h2 h3 =>
   refine .ip cs ad val h1 (fun j d hd=>?_) (fun j d hd=>(h3 j d hd).monoC e.size hs e.img)
   obtain⟨a,b,c⟩:=h2 j d hd
   exact⟨Jk a e.size,fun x=>b (e.img _ a x),QhE c fun C T m h=>hs _ C T m h b⟩
 | agg ds vs h _ ih=>exact .agg ds vs h ih
 | fn f ds es vs us h h' _ _ ih ih'=>exact .fn f ds es vs us h h' ih ih'
 | tup ds vs h _ ih=>exact .tup ds vs h ih
 | opt c d v _ hf ih=>exact .opt c d v ih hf
 | any v=>exact .any v
abbrev QF9:=List (Value×DV)
abbrev MapsD:=List (Nat×QF9)
structure MapAt(w:World)(β:Map)(hp:Qa)(b:Nat)(L:QF9):Prop where
 at_:∃ es clock,w.heap[b]?=some (.map es clock)/\Stamped es clock/\es.toList.map (·.key)=L.map (·.1)/\∀ (i:Nat) (e:MapEntry) (p:Value×DV),es.toList[i]?=some e->L[i]?=some p->RelD w β hp p.2 e.val
def QAp(g:MapsD)(w0 w:World)(β:Map)(hp:Qa):Prop:=(g.map (·.1)).Nodup/\∀ p∈g,w0.heap.size<=p.1/\MapAt w β hp p.1 p.2
abbrev QzD:=World×Map×Qa
def MapsD.At(c:QzD)(g:MapsD)(w0 w:World)(β:Map)(hp:Qa):Prop:=QAp g w0 w β hp/\EvoC c.1 c.2.1 c.2.2 w β hp
abbrev Qje(c:QzD):MapsD->World->World->Map->Qa->Prop:=fun g=>MapsD.At c g
def MapAt.go(h:MapAt w β hp b L)(e:EvoC w β hp w' β' hp')(hb:w'.heap[b]?=w.heap[b]?):MapAt w' β' hp' b L:=by
 obtain⟨es,clock,h1,h2,h3,h4⟩:=h.at_
 exact⟨es,clock,hb.trans h1,h2,h3,fun i e' p q1 q2=>(h4 i e' p q1 q2).monoC e⟩
def Qm(c:QzD)(g:MapsD):Stable (Qje c g):=fun w0 w β hp w' β' hp' hh e h=>⟨⟨h.1.1,fun p hp=>by
 obtain⟨h1,h2⟩:=h.1.2 p hp
 obtain⟨es,clock,q,_⟩:=h2.at_
 exact⟨h1,h2.go e.toC ((Evo.others hh e).same _ _ q rfl |>.trans q.symm)⟩⟩,h.2.trans e.toC⟩
structure KeyT(P:Program)(kt:TypeId){κ:Type}[DecidableEq κ](enc:κ->Value):Prop where
 check:∀ (e:Bool) (w:World) (k:κ),(Instr.checkKey e 10000 kt (enc k)).run P w=.ok () w
 find:∀ (w:World) (k:κ) (l:List MapEntry) (ks:List κ),l.map (·.key)=ks.map enc->(Instr.findKey kt (enc k) l).run P w=.ok ((ks.findIdx? (fun x=>decide (x=k))).bind fun i=>(l[i]?).map fun e=>(i,e.val)) w
 stays:∀ (w:World) (k:κ),(Instr.keyThatStays (enc k) (enc k)).run P w=.ok (enc k) w
 inj:∀ a b,enc a=enc b->a=b
def Qhx:∀ {l:List MapEntry} {ks:List Int} {i:Nat},l.map (·.key) = ks.map (fun x=>Value.int .i64 x)->Instr.findNow (.int q) (.int .i64 k) l i = some ((ks.findIdx? (fun x=>decide (x = k))).bind fun j=>(l[j]?).map fun e=>(i + j,e.val))
 | [],[],i,_=>rfl
 | [],_::_,_,h=>by simp at h
 | _::_,[],_,h=>by simp at h
 | e :: l,a :: ks,i,h=>by
   simp only[Js,List.cons.injEq] at h
   have hs:Instr.sameNow (.int q) (.int .i64 k) e.key=some (k==a):=by rw[h.1]; simp[Instr.sameNow]
   by_cases hka:a=k
   ·subst hka
    simp[Instr.findNow,hs,J5]
   ·have hb:(k == a) = false:=by simpa using fun h=>hka h.symm
    have:=Qhx (q:=q) (k:=k) (i:=i+1) h.2
    simp only[Instr.findNow,hs,hb,this,J5,decide_eq_false hka]
    cases hf:ks.findIdx? (fun x=>decide (x=k)) with
    | none=>simp[hf]
    | some j=>simp[hf]; congr 1; funext x; simp; omega
def Qyw(hk:P.underlying kt=some (.int .i64)):KeyT P kt (fun x:Int=>Value.int .i64 x):=
 ⟨fun e w k=>run_checkKey hk (by simp[IsKey]) e 9999,fun w k l ks h=>by rw[run_findKey hk (Qhx (i:=0) h)]; simp,fun w k=>by simp[Instr.keyThatStays,Instr.sameBits],fun a b h=>by simpa using h⟩
section
variable {κ:Type} [DecidableEq κ]
def QhA(enc:κ->Value)(L:List (κ×DV)):QF9:=L.map fun p=>(enc p.1,p.2)
def QqH:List (κ×DV)->κ->Option DV
 | [],_=>none
 | (a,x)::r,k=>if a=k then some x else QqH r k
def QlE:List (κ×DV)->κ->DV->List (κ×DV)
 | [],k,v=>[(k,v)]
 | (a,x)::r,k,v=>if a=k then (a,v)::r else (a,x)::QlE r k v
theorem QyK (L:List (κ × DV)) (k:κ) (v:DV) (k':κ):QqH (QlE L k v) k' = if k = k' then some v else QqH L k':=by
 induction L with
 | nil=>simp[QlE,QqH]
 | cons p r ih =>
   obtain⟨a,x⟩:=p
   by_cases h:a=k
   ·subst h
    simp only[QlE,QqH,if_true]
    split<;>rfl
   ·simp only [QlE,if_neg h,QqH,ih]
    by_cases h':a=k'
    ·subst h'
     rw[if_pos rfl,if_neg (Ne.symm h),if_pos rfl]
    ·rw[if_neg h',if_neg h']
theorem QyL (L:List (κ × DV)) (k:κ):QqH L k = ((L.map (·.1)).findIdx? (fun x=>decide (x = k))).bind fun i=>(L[i]?).map (·.2):=by
 induction L with
 | nil=>rfl
 | cons p r ih =>
   obtain⟨a,x⟩:=p
   by_cases h:a=k
   ·subst h; simp[QqH,J5]
   ·simp only [QqH,if_neg h,ih,Js,J5,decide_eq_false h]
    cases hf:(r.map (·.1)).findIdx? (fun x=>decide (x=k))<;>simp[hf]
theorem QtO (L:List (κ × DV)) (k:κ) (v:DV) (h:(L.map (·.1)).findIdx? (fun x=>decide (x = k)) = none):QlE L k v = L ++ [(k,v)]/\∀ p ∈ L,p.1 ≠ k:=by
 induction L with
 | nil=>simp[QlE]
 | cons p r ih =>
   obtain⟨a,x⟩:=p
   simp only[Js,J5] at h
   by_cases ha:a=k
   ·simp[ha] at h
   ·simp only [decide_eq_false ha,Ke,if_false,Option.map_eq_none_iff] at h
    obtain⟨h1,h2⟩:=ih h
    exact⟨by simp[QlE,ha,h1],by simp[ha]; intro a' b hm; exact h2 (a',b) hm⟩
theorem QtN (L:List (κ × DV)) (k:κ) (v:DV) (h:(L.map (·.1)).findIdx? (fun x=>decide (x = k)) = some i):QlE L k v = L.set i (k,v)/\∃ d,L[i]? = some (k,d):=by
 induction L generalizing i with
 | nil=>simp at h
 | cons p r ih =>
   obtain⟨a,x⟩:=p
   simp only[Js,J5] at h
   by_cases ha:a=k
   ·simp [ha] at h
    subst h
    simp[QlE,ha]
   ·simp only [decide_eq_false ha,Ke,if_false,Option.map_eq_some_iff] at h
    obtain⟨j,hj,rfl⟩:=h
    obtain⟨h1,d,h2⟩:=ih hj
    exact⟨by simp[QlE,ha,h1],d,by simpa using h2⟩
end
end Go.V
namespace Go.V
open Go.MapKept
variable {P:Program} {γ:Type} {Γ:γ->World->World->Map->Qa->Prop}
def Qof (P:Program) (Γ:γ->World->World->Map->Qa->Prop) (o:Oper) (K:St->γ->Prop) (S:St) (g:γ):Prop :=
 ∀ (O:Org) (β:Map) (a:Act) (w:World),SimG (Γ g) O β S a w ->
   ∃ v w',((execOp a.eval o).run P w=.ok (.value v) w'\/((execOp a.eval o).run P w=.ok .skip w'/\v=undef))/\∃ β' S' g',SimG (Γ g') O β' S' (a.put o.dst v) w'/\K S' g'
theorem Qj1(hG:QK ops.toList S o=some true)(nd:∀ c,o.op≠.defer c)(h:Qof P Γ o K S g):OpG P Γ ops o K S g:=fun n Q next O β a w hs hn=>by
 rw[QkF hs hG,if_pos rfl]
 obtain⟨v,w',h1,β',S',g',h2,h3⟩:=h O β a w hs
 refine⟨fun _ _=>trivial,?_⟩
 rw[Oper.semAt_plain _ _ _ nd]
 rcases h1 with h1 | ⟨h1,rfl⟩
 ·rw[h1]; exact hn _ _ _ _ _ h2 h3
 ·rw[h1]; exact hn _ _ _ _ _ h2 h3
theorem QjM [DecidableEq κ] (ht:P.underlying t = some (.map kt et)) (hk:KeyT P kt enc) (hz:∀ w,(zeroValue et).run P w = .ok zv w) (hzr:∀ w β hp,RelD w β hp z zv) (h:MapAt w β hp b (QhA enc L)) (k:κ) (c:Bool):
 ∃ v,(Instr.lookup t (.map (some b)) (enc k) c).run P w=.ok (if c then .tuple #[v,.bool (QqH L k).isSome] else v) w/\RelD w β hp ((QqH L k).getD z) v:=by
 obtain⟨es,clock,h1,h2,h3,h4⟩:=h.at_
 have hf:=hk.find w k es.toList (L.map (·.1)) (by rw[h3]; simp[QhA])
 have hlen:es.toList.length=L.length:=by have:=congrArg Ky h3; simpa [QhA] using this
 rw[QyL]
 unfold Instr.lookup
 simp only[Sem.run_bind,run_underlying ht,Result.andThen,Go.MapKept.run_getObj_map h1,Sem.run_pure,hk.check,hf]
 cases hi:(L.map (·.1)).findIdx? (fun x=>decide (x=k)) with
 | none=>exact⟨zv,by cases c<;>simp[hz,Result.andThen],by simpa using hzr w β hp⟩
 | some i =>
   have hlt:i<L.length:=by
    have:=(List.findIdx?_eq_some_iff_findIdx_eq.1 hi).1
    simpa using this
   have e1:L[i]?=some L[i]:=Ja hlt
   have e2:es.toList[i]?=some es.toList[i]:=Ja (by omega)
   have hr:=h4 i _ (enc L[i].1,L[i].2) e2 (by simp[QhA,e1])
   refine⟨es.toList[i].val,?_,?_⟩
   ·simp only [Kv,e2,Jv,e1]
    cases c<;>simp
   ·simp only[Kv,e1,Jv,Ku]; exact hr
theorem Qvo(hop:o.op=.makeMap t none)(hf:S.fits o.dst=true)(hK:∀ b,(∀ p∈g,p.1≠b)->K (S.put o.dst (Qde o.guard true (.pv (.lit (.map (some b)))))) ((b,[])::g)):Qof P (Qje c) o K S g:=fun O β a w hs=>by
 have hgr:=World.grownBy_alloc w (.map #[] 0) none
 have e1:=Go.MapKept.heap_alloc w (.map #[] 0)
 have hu:Up w (w.alloc (.map #[] 0)):=Up.grown hgr (by simp)
 have fresh:∀ p∈g,p.1≠w.heap.size:=fun p hp he=>by
  obtain⟨es,clock,q,_⟩:=(hs.g.1.2 p hp).2.at_
  rw[he] at q
  simp at q
 refine⟨.map (some w.heap.size),w.alloc (.map #[] 0),.inl ?_,β,_,_,hs.put hu (hs.evo.grown hgr (by simp)) hf (Qa9 (.pv _ _ (.lit _ rfl))) ⟨⟨?_,?_⟩,hs.g.2.trans (hu.toC _ _)⟩,hK w.heap.size fresh⟩
 ·simp [execOp,hop]
  rfl
 ·rw [Js,List.nodup_cons]
  refine⟨fun hm=>?_,hs.g.1.1⟩
  obtain⟨p,hp,he⟩:=Ka.1 hm
  exact fresh p hp he
 ·intro p hp
  rcases KO.1 hp with rfl | hp
  ·exact⟨hs.evo.size,⟨#[],0,e1.1,stamped_empty 0,rfl,fun i e p h=>by simp at h⟩⟩
  ·obtain ⟨h1,h2⟩:=hs.g.1.2 p hp
   obtain⟨es,clock,q,_⟩:=h2.at_
   exact⟨h1,h2.go (hu.toC _ _) (e1.2 _ (Jh.1 q).1)⟩
theorem Qvp{κ:Type}[DecidableEq κ]{enc:κ->Value}{c:QzD}{o:Oper}{K:St->MapsD->Prop}{g:MapsD}{m x:Operand}{b:Nat}{L:List (κ×DV)}{k:κ}{z:DV}{zv:Value}(hop:o.op=.lookup t m x false)(hf:S.fits o.dst=true)(ht:P.underlying t=some (.map kt et))(hk:KeyT P kt enc)(hz:∀ w,(zeroValue et).run P w=.ok zv w)(hzr:∀ w β hp,RelD w β hp z zv)(hm:Qs true (S.ev m)=.pv (.lit (.map (some b))))(hL:(b,QhA enc L)∈g)(hx:∀ (w:World) (β:Map) (hp:Qa) (v:Value),RelD w β hp (Qs true (S.ev x)) v->v=enc k)(hK:K (S.put o.dst (Qde o.guard true ((QqH L k).getD z))) g):Qof P (Qje c) o K S g:=fun O β a w hs=>by
 obtain⟨-,h2⟩:=hs.g.1.2 _ hL
 have em:=QFu hs m
 rw[hm] at em
 have ex:=hx _ _ _ _ (QFu hs x)
 obtain⟨v,r1,r2⟩:=QjM ht hk hz hzr h2 k false
 refine⟨v,w,.inl ?_,β,_,g,hs.put ⟨Jp _,fun _ _ _ _ h=>h⟩ hs.evo hf (Qa9 r2) hs.g,hK⟩
 simp only[execOp,hop,Qk em,ex]
 simp[r1,Result.andThen]
theorem QjL [DecidableEq κ] (ht:P.underlying t = some (.map kt et)) (hk:KeyT P kt enc) (h:MapAt w β hp b (QhA enc L)) (k:κ) (hd:RelD w β hp d v):
 ∃ es' clock',(Instr.mapUpdate t (.map (some b)) (enc k) v).run P w = .ok () { w with heap:=w.heap.setIfInBounds b (.map es' clock') }/\Stamped es' clock'/\es'.toList.map (·.key) = (QhA enc (QlE L k d)).map (·.1) /\
   ∀ (i:Nat) (e:MapEntry) (p:Value×DV),es'.toList[i]?=some e->(QhA enc (QlE L k d))[i]?=some p->RelD w β hp p.2 e.val:=by
 obtain⟨es,clock,h1,h2,h3,h4⟩:=h.at_
 have h3':es.toList.map (·.key)=(L.map (·.1)).map enc:=by rw[h3]; simp[QhA]
 have hf:=hk.find w k es.toList (L.map (·.1)) h3'
 have hlen:es.toList.length=L.length:=by have:=congrArg Ky h3; simpa [QhA] using this
 cases hi:(L.map (·.1)).findIdx? (fun x=>decide (x=k)) with
 | none =>
   obtain⟨p1,p2⟩:=QtO L k d hi
   rw[hi] at hf
   refine⟨es.push { key:=enc k,val:=v,born:=clock },clock+1,?_,stamped_push h2 (fun x hx he=>?_),?_,fun i e p q1 q2=>?_⟩
   ·unfold Instr.mapUpdate
    simp only[Sem.run_bind,run_underlying ht,Result.andThen,Go.MapKept.run_getObj_map h1,hk.check,hf,Option.bind_none,Go.MapKept.run_setObj_map _ h1]
   ·have:x.key ∈ (L.map (·.1)).map enc:=by rw [<- h3']; exact Ka.2 ⟨x,hx,rfl⟩
    obtain⟨y,hy,e⟩:=Ka.1 this
    obtain⟨q,hq,rfl⟩:=Ka.1 hy
    exact p2 q hq (hk.inj _ _ (e.trans he))
   ·rw[p1]; simp[QhA,h3']
   ·rw [p1] at q2
    simp only[QhA,Kx,Js,KR] at q2
    simp only[Array.toList_push] at q1
    by_cases hlt:i<L.length
    ·rw [Jj (by omega)] at q1
     rw[Jj (by simpa using hlt)] at q2
     exact h4 i e p q1 q2
    ·rw [Jr (by omega)] at q1
     rw[Jr (by simp; omega)] at q2
     simp only[Jc] at q2
     have:i-L.length=0:=by
      cases hj:i-L.length with
      | zero=>rfl
      | succ j=>rw[hj] at q2; simp at q2
     rw[this] at q2
     rw[hlen,this] at q1
     simp at q1 q2
     subst q1; subst q2
     exact hd
 | some i =>
   obtain⟨p1,d0,p2⟩:=QtN L k d hi
   have hlt:i<L.length:=(Jf.1 p2).1
   have e2:es.toList[i]?=some es.toList[i]:=Ja (by omega)
   have hkey:es.toList[i].key=enc k:=by
    have:=congrArg (fun l=>l[i]?) h3'
    simp only[Jb,e2,p2,Jv,K4.injEq] at this
    exact this
   rw[hi,Kv,e2] at hf
   have hm:∀ e∈es.toList,es[i]?=some e->enc k=e.key:=fun e _ he=>by
    have:es.toList[i]?=some e:=by simpa using he
    rw[e2] at this
    simp only[K4.injEq] at this
    rw[<- this,hkey]
   refine⟨es.modify i fun e=>{ e with key:=enc k,val:=v },clock,?_,stamped_modify h2 i _ (fun _ _=>rfl) (fun e h1 h2=>hm e h1 h2),?_,fun j e p q1 q2=>?_⟩
   ·have e1:((es[i]?).map (·.key)).getD (enc k) = enc k:=by
     have:es[i]?=some es.toList[i]:=by simp
     rw[this]; exact hkey
    unfold Instr.mapUpdate
    simp only[Sem.run_bind,run_underlying ht,Result.andThen,Go.MapKept.run_getObj_map h1,hk.check,hf,Jv,e1,hk.stays,Go.MapKept.run_setObj_map _ h1]
   ·rw [modify_keys i _ (fun e he=>by
     have h':es.toList[i]?=some e:=by simpa using he
     exact hm e (K0 h') he),h3',p1]
    have hs:(L.set i (k,d)).map (·.1)=L.map (·.1):=by
     rw[Ug]
     apply Ki
     intro j
     rw[JD]
     split
     ·rename_i hij
      subst hij
      rw[if_pos (by simpa using hlt),Jb,p2]
      rfl
     ·rfl
    rw[<- hs]
    simp only[QhA,Ui]
    rfl
   ·rw [p1] at q2
    by_cases hij:i=j
    ·subst hij
     have q1':(es.modify i fun e=>{ e with key:=enc k,val:=v })[i]?=some e:=by rw[<- Kq]; exact q1
     rw[KY,if_pos rfl] at q1'
     have e2':es[i]?=some es.toList[i]:=by simp
     rw[e2'] at q1'
     simp at q1'
     subst q1'
     simp[QhA,JD,hlt] at q2
     subst q2
     exact hd
    ·have q1':(es.modify i fun e=>{ e with key:=enc k,val:=v })[j]? = some e:=by rw [<- Kq]; exact q1
     rw[KY,if_neg hij] at q1'
     refine h4 j e p (by simpa using q1') ?_
     simpa [QhA,JD,hij] using q2
theorem QBZ {O:Org} (hg:MapsD.At c g O.w w β hp) (hL:(b,L) ∈ g) (h1:Stamped es clock) (h2:es.toList.map (·.key) = L'.map (·.1)) (h3:∀ (i:Nat) (e:MapEntry) (p:Value × DV),es.toList[i]? = some e->L'[i]? = some p->RelD w β hp p.2 e.val):
 Up w { w with heap:=w.heap.setIfInBounds b (.map es clock) }/\(∀ {w0 β0 hp0},Evo w0 β0 hp0 w β hp->w0=O.w->Evo w0 β0 hp0 { w with heap:=w.heap.setIfInBounds b (.map es clock) } β hp)/\MapsD.At c (g.map fun p=>if p.1=b then (b,L') else p) O.w { w with heap:=w.heap.setIfInBounds b (.map es clock) } β hp:=by
 obtain⟨hb,h⟩:=hg.1.2 _ hL
 obtain⟨es0,clock0,q,_⟩:=h.at_
 obtain⟨s1,s2⟩:=Go.MapKept.heap_set (o':=.map es clock) q
 have hgr:w.grownBy { w with heap:=w.heap.setIfInBounds b (.map es clock) } (some b):=⟨rfl,rfl,rfl,by simp,fun i hi hne=>s2 i (fun e=>hne (by rw[e]))⟩
 have hr:∀ r,some b=some r->O.w.heap.size<=r/\∃ o:Obj,w.heap[r]?=some o/\o.isCells=false:=fun r e=>by cases e; exact⟨hb,_,q,rfl⟩
 have hu:Up w { w with heap:=w.heap.setIfInBounds b (.map es clock) }:=Up.grown hgr fun r e=>(hr r e).2
 refine⟨hu,fun {w0 β0 hp0} ev e=>?_,⟨⟨?_,fun p hp=>?_⟩,hg.2.trans (hu.toC _ _)⟩⟩
 ·subst e; exact ev.grown hgr hr
 ·have e:(g.map fun p=>if p.1 = b then (b,L') else p).map (·.1) = g.map (·.1):=by
   rw[Ui]
   refine List.map_congr_left fun p _=>?_
   simp only[Function.comp]
   split
   ·rename_i he; exact he.symm
   ·rfl
  rw[e]; exact hg.1.1
 ·obtain ⟨q',hq',rfl⟩:=Ka.1 hp
  split
  ·exact⟨hb,es,clock,s1,h1,h2,fun i e p q1 q2=>(h3 i e p q1 q2).up hu⟩
  ·rename_i he
   obtain⟨k1,k2⟩:=hg.1.2 q' hq'
   exact⟨k1,k2.go (hu.toC _ _) (s2 _ he)⟩
theorem Qza{κ:Type}[DecidableEq κ]{enc:κ->Value}{c:QzD}{o:Oper}{K:St->MapsD->Prop}{g:MapsD}{m x y:Operand}{b:Nat}{L:List (κ×DV)}{k:κ}(hop:o.op=.mapUpdate t m x y)(hf:S.fits o.dst=true)(ht:P.underlying t=some (.map kt et))(hk:KeyT P kt enc)(hm:Qs true (S.ev m)=.pv (.lit (.map (some b))))(hL:(b,QhA enc L)∈g)(hx:∀ (w:World) (β:Map) (hp:Qa) (v:Value),RelD w β hp (Qs true (S.ev x)) v->v=enc k)(hK:K (S.put o.dst (Qde o.guard true (.tup []))) (g.map fun p=>if p.1=b then (b,QhA enc (QlE L k (Qs true (S.ev y)))) else p)):Qof P (Qje c) o K S g:=fun O β a w hs=>by
 obtain⟨h1,h2⟩:=hs.g.1.2 _ hL
 have em:=QFu hs m
 rw[hm] at em
 have ex:=hx _ _ _ _ (QFu hs x)
 have ey:=QFu hs y
 obtain⟨es',clock',r1,r2,r3,r4⟩:=QjL ht hk h2 k ey
 obtain⟨u1,u2,u3⟩:=QBZ (L':=QhA enc (QlE L k (Qs true (S.ev y)))) hs.g hL r2 r3 r4
 refine⟨undef,_,.inr ⟨?_,rfl⟩,β,_,_,hs.put u1 (u2 hs.evo rfl) hf (Qa9 (.tup [] #[] rfl (by simp))) u3,hK⟩
 simp only[execOp,hop,Qk em,ex]
 simp[r1,Result.andThen]
end Go.V
namespace Go.V
variable {P:Program} {γ:Type} {Γ:γ->World->World->Map->Qa->Prop} {ops:Array Oper}
def Qba(ops:Array Oper)(i:Nat):List Nat:=match ops[i]? with | some o=>(o.after.toList.filter fun e=>Region.binds .any e).map (·.on) | none=>[]
def QmE(ops:Array Oper):Nat->Nat->List Nat
 | 0,_=>[]
 | f+1,i=>Qba ops i++(Qba ops i).flatMap (QmE ops f)
def Qnh(ops:Array Oper)(k f:Nat):Bool:=
 decide (k<ops.size)&&(JC ops.size).all (fun i=>(Qba ops i).all fun j=>decide (j<i)) &&
 (JC k).all (fun i=>(QmE ops f k).contains i) &&
 (JC ops.size).all fun j=>decide (j<=k)||((QmE ops f j).contains k&&match ops[j]? with | some o=>o.guard.isNone | none=>false)
structure SplitOk(ops:Array Oper)(k f:Nat):Prop where
 lt:k<ops.size
 back:∀ i,i<ops.size->∀ j∈Qba ops i,j<i
 pre:∀ i,i<k->i∈QmE ops f k
 post:∀ j,k<j->j<ops.size->k∈QmE ops f j/\∃ o,ops[j]?=some o/\o.guard=none
theorem Qlg(h:Qnh ops k f=true):SplitOk ops k f:=by
 simp only[Qnh,Jq,decide_eq_true_eq] at h
 obtain⟨⟨⟨h1,h2⟩,h3⟩,h4⟩:=h
 refine⟨h1,fun i hi j hj=>?_,fun i hi=>?_,fun j hj hlt=>?_⟩
 ·have:=JZ.1 (JZ.1 h2 i (JS.2 hi)) j hj
  simpa using this
 ·have:=JZ.1 h3 i (JS.2 hi)
  simpa using this
 ·have:=JZ.1 h4 j (JS.2 hlt)
  simp only[J2,decide_eq_true_eq,Jq] at this
  rcases this with this | ⟨e1,e2⟩
  ·omega
  ·refine ⟨by simpa using e1,ops[j],Ju hlt,?_⟩
   rw[Ju hlt] at e2
   simpa using e2
def ClosedL(ops:Array Oper)(L:Array Bool):Prop:=∀ i,L.getD i false=true->∀ j∈Qba ops i,L.getD j false=true
theorem QdY (hc:ClosedL ops L):∀ (f i:Nat),(∀ j ∈ Qba ops i,L.getD j false = true)->∀ j ∈ QmE ops f i,L.getD j false = true
 | 0,_,_,j,hj=>by simp[QmE] at hj
 | f + 1,i,h,j,hj=>by
   simp only[QmE,KC,List.mem_flatMap] at hj
   rcases hj with hj | ⟨m,hm,hj⟩
   ·exact h j hj
   ·exact QdY hc f m (hc m (h m hm)) j hj
theorem mem_ready':i∈Region.ready .any ops L ↔ i<ops.size/\L.getD i true=false/\∀ j∈Qba ops i,L.getD j false=true:=by
 rw[mem_ready]
 constructor
 ·rintro ⟨h1,o,ho,h2⟩
  refine⟨(Jh.1 ho).1,h1,fun j hj=>?_⟩
  simp only[Qba,ho,Ka,Ud] at hj
  obtain⟨e,⟨he,hb⟩,rfl⟩:=hj
  exact h2 e (by simpa using he) hb
 ·rintro ⟨h1,h2,h3⟩
  refine⟨h2,ops[i],Ju h1,fun e he hb=>h3 _ ?_⟩
  simp only[Qba,Ju h1,Ka,Ud]
  exact⟨e,⟨by simpa using he,hb⟩,rfl⟩
theorem ClosedL.set(hc:ClosedL ops L)(hi:i<L.size)(hp:∀ j∈Qba ops i,L.getD j false=true):ClosedL ops (L.setIfInBounds i true):=fun m hm j hj=>by
 by_cases e:i=m
 ·subst e
  exact getD_set_true (hp j hj)
 ·rw [getD_set_ne false e] at hm
  exact getD_set_true (hc m hm j hj)
theorem Qrd (hback:∀ i,i < ops.size->∀ j ∈ Qba ops i,j < i) (hs:L.size = ops.size) (hn:n<=ops.size) (h:∀ i,i < n->i ∉ Region.ready .any ops L):∀ i,i < n->L.getD i false = true:=by
 intro i
 induction i using KF with
 | _ i ih =>
   intro hlt
   cases hl:L.getD i false with
   | true=>rfl
   | false =>
     refine absurd (mem_ready'.2 ⟨by omega,?_,fun j hj=>?_⟩) (h i hlt)
     ·have:i < L.size:=by omega
      simpa [this] using hl
     ·have:=hback i (by omega) j hj
      exact ih j this (by omega)
theorem Qny(hi:i<k):((ops.toList.take k).toArray)[i]?=ops[i]?:=by
 simp[hi]
theorem QtR(hi:i<k):Qba (ops.toList.take k).toArray i=Qba ops i:=by unfold Qba; rw[Qny hi]
theorem Qog {o:Oper} (h:∀ a w,K a w->K' a w) (hq:∀ e a w,e ≠ .normal->Q e a w->Q' e a w) (hh:o.wp P a w K Q):o.wp P a w K' Q':=by
 unfold Oper.wp at *
 generalize (execOp a.eval o).run P w=r at *
 cases r with
 | ok n w' =>
   cases n<;>simp only[Oper.upon] at hh |- <;>
    first
     | exact h _ _ hh
     | exact Calls.mono hh (fun e w'' he=>by cases e<;>first | exact h _ _ he | exact hq _ _ _ (by simp) he | exact(let ⟨a1,w1,h1⟩:=(he:LetsOut Q); (⟨a1,w1,hq _ _ _ (by simp) h1⟩:LetsOut Q')))
     | exact Rows.mono hh (fun _ _ he=>h _ _ he)
 | halt x w'=>cases x<;>simp only[Oper.upon] at hh |-<;>first | exact hq _ _ _ (by simp) hh | exact hh
theorem Qit:∀ (n:Nat) (L:Array Bool) (a:Act) (w:World),wpAny P .any ops Q n L a w->wpAny P .any ops Q (n+1) L a w
 | 0,L,a,w,h=>⟨fun _=>h.2,fun i hi=>by rw[h.1] at hi; (cases hi)⟩
 | n+1,L,a,w,h=>⟨h.1,fun i hi=>wpOp_mono (fun a w=>Qit n _ a w) (h.2 i hi)⟩
theorem Qiu(h:wpAny P .any ops Q n L a w):∀ m,wpAny P .any ops Q (m+n) L a w
 | 0=>by rw[JA]; exact h
 | m+1=>by rw[show m+1+n=(m+n)+1 by omega]; exact Qit _ _ _ _ (Qiu h m)
theorem QDF (sp:SplitOk ops k f) (hg:∀ i,i < k->∀ o,ops[i]? = some o->o.guard = none\/∃ j b,o.guard = some (j,b)/\j < k) (hq1:∀ e a w,Q1 e a w->e = .normal) (hN:∀ (L:Array Bool),L.size = ops.size->(∀ i,L.getD i false = decide (i < k))->∀ a w,Q1 .normal a w->wpOp P ops Q k (wpAny P .any ops Q m (L.setIfInBounds k true)) a w):
 ∀ (fuel:Nat) (L L1:Array Bool) (a:Act) (w:World),L.size = ops.size->L1.size = k->(∀ i,i < k->L1.getD i false = L.getD i false)->ClosedL ops L->(∀ i,k<=i->L.getD i false = false) ->
   wpAny P .any (ops.toList.take k).toArray Q1 fuel L1 a w->wpAny P .any ops Q (fuel+(m+1)) L a w:=by
 have hsz:(ops.toList.take k).toArray.size=k:=by have:=sp.lt; simp; omega
 have rd:∀ (L L1:Array Bool),L.size = ops.size      -> L1.size = k->(∀ i,i < k->L1.getD i false = L.getD i false)->∀ i,i < k->(i ∈ Region.ready .any (ops.toList.take k).toArray L1 ↔ i ∈ Region.ready .any ops L):=by
  intro L L1 h1 h2 h3 i hi
  have hlt:i<ops.size:=KW hi sp.lt
  rw[mem_ready',mem_ready',hsz,QtR hi]
  have e1:L1.getD i true = L1.getD i false:=by     have:i < L1.size:=by omega
                                                   simp[this]
  have e2:L.getD i true = L.getD i false:=by     have:i < L.size:=by omega
                                                 simp[this]
  rw[e1,e2,h3 i hi]
  constructor
  ·rintro⟨_,a,b⟩; exact⟨hlt,a,fun j hj=>by rw[<- h3 j (KW (sp.back i hlt j hj) hi)]; exact b j hj⟩
  ·rintro⟨_,a,b⟩; exact⟨hi,a,fun j hj=>by rw[h3 j (KW (sp.back i hlt j hj) hi)]; exact b j hj⟩
 have fin:∀ (x:Nat) (L L1:Array Bool) (a:Act) (w:World),L.size = ops.size->L1.size = k->(∀ i,i < k->L1.getD i false = L.getD i false)->ClosedL ops L->(∀ i,k<=i->L.getD i false = false) ->
  Region.ready .any (ops.toList.take k).toArray L1=[]->Q1 .normal a w->(∀ i,i<ops.size->i∈Region.ready .any ops L->i=k)/\k∈Region.ready .any ops L/\wpOp P ops Q k (wpAny P .any ops Q m (L.setIfInBounds k true)) a w:=by
  intro x L L1 a w h1 h2 h3 h4 h5 h6 h7
  have hall:∀ i,i<k->L.getD i false=true:=Qrd (n:=k) sp.back h1 (Uj sp.lt) fun i hi hm=>by
   have:=(rd L L1 h1 h2 h3 i hi).2 hm
   rw[h6] at this
   cases this
  have hL:∀ i,L.getD i false=decide (i<k):=fun i=>by
   by_cases hi:i<k
   ·rw[hall i hi,decide_eq_true hi]
   ·rw[h5 i (by omega),decide_eq_false hi]
  have hk:k∈Region.ready .any ops L:=by
   have hks:k<L.size:=by rw[h1]; exact sp.lt
   refine mem_ready'.2 ⟨sp.lt,?_,fun j hj=>hall j (sp.back k sp.lt j hj)⟩
   have h':=h5 k (Jp _)
   simpa [hks] using h'
  refine⟨fun i hi hm=>?_,hk,hN L h1 hL a w h7⟩
  obtain⟨r1,r2,r3⟩:=mem_ready'.1 hm
  have hi':i<L.size:=by omega
  have hu:L.getD i false=false:=by simpa [hi'] using r2
  rw[hL] at hu
  by_cases hik:i=k
  ·exact hik
  ·have hki:k < i:=by
    have:¬ i<k:=by simpa using hu
    omega
   have:=QdY h4 f i r3 k (sp.post i hki hi).1
   rw[hL] at this
   simp at this
 have step:∀ (n:Nat) (L L1:Array Bool) (a:Act) (w:World),n=m->L.size=ops.size->L1.size=k->(∀ i,i<k->L1.getD i false=L.getD i false)->ClosedL ops L->(∀ i,k<=i->L.getD i false=false) ->
  Region.ready .any (ops.toList.take k).toArray L1=[]->Q1 .normal a w->wpAny P .any ops Q (n+1) L a w:=by
  intro n L L1 a w e h1 h2 h3 h4 h5 h6 h7
  subst e
  obtain⟨g1,g2,g3⟩:=fin 0 L L1 a w h1 h2 h3 h4 h5 h6 h7
  refine⟨fun h=>by rw[h] at g2; (cases g2),fun i hi=>?_⟩
  have:=g1 i (mem_ready'.1 hi).1 hi
  subst this
  exact g3
 intro fuel
 induction fuel with
 | zero =>
   intro L L1 a w h1 h2 h3 h4 h5 h
   rw[JA]
   exact step m L L1 a w rfl h1 h2 h3 h4 h5 h.1 h.2
 | succ fuel ih =>
   intro L L1 a w h1 h2 h3 h4 h5 h
   by_cases hr:Region.ready .any (ops.toList.take k).toArray L1=[]
   ·exact Qiu (step m L L1 a w rfl h1 h2 h3 h4 h5 hr (h.1 hr)) (fuel+1)
   ·obtain ⟨j,hj⟩:=List.exists_mem_of_ne_nil _ hr
    have hjk:j<k:=by have:=(mem_ready'.1 hj).1; rw[hsz] at this; exact this
    have hju:L.getD j false=false:=by
     have hj1:j<L1.size:=by omega
     have:=(mem_ready'.1 hj).2.1
     rw[<- h3 j hjk]
     simpa [hj1] using this
    rw[show fuel+1+(m+1)=(fuel+(m+1))+1 by omega]
    refine⟨fun hn=>?_,fun i hi=>?_⟩
    ·have:=(rd L L1 h1 h2 h3 j hjk).1 hj
     rw[hn] at this
     cases this
    ·obtain ⟨r1,r2,r3⟩:=mem_ready'.1 hi
     have hik:i<k:=by
      by_cases hlt:i<k
      ·exact hlt
      ·exfalso
       by_cases he:i=k
       ·subst he
        have:=QdY h4 f i r3 j (sp.pre j hjk)
        rw[hju] at this
        cases this
       ·have:=QdY h4 f i r3 k (sp.post i (by omega) r1).1
        rw[h5 k (Jp _)] at this
        cases this
     have hi1:=h.2 i ((rd L L1 h1 h2 h3 i hik).2 hi)
     have ho:ops[i]?=some ops[i]:=Ju r1
     have hiL:i<L.size:=by omega
     have hiL1:i<L1.size:=by omega
     unfold wpOp at hi1 |-
     rw[Qny hik,ho] at hi1
     rw[ho]
     dsimp only at hi1 |-
     have hw:Region.wanted ops[i] (yielded (ops.toList.take k).toArray a.tmps)=Region.wanted ops[i] (yielded ops a.tmps):=by
      unfold Region.wanted
      rcases hg i hik _ ho with e | ⟨j',b,e,hj'⟩
      ·rw[e]
      ·rw[e]; simp only[yielded,Qny hj']
     rw[hw] at hi1
     have go:∀ a w,wpAny P .any (ops.toList.take k).toArray Q1 fuel (L1.setIfInBounds i true) a w->wpAny P .any ops Q (fuel+(m+1)) (L.setIfInBounds i true) a w:=fun a w hh=>
      ih (L.setIfInBounds i true) (L1.setIfInBounds i true) a w (by simpa using h1) (by simpa using h2) (fun x hx=>by
       by_cases e:i=x
       ·subst e; simp[hiL,hiL1]
       ·rw[getD_set_ne false e,getD_set_ne false e]; exact h3 x hx) (h4.set hiL r3) (fun x hx=>by rw[getD_set_ne false (by omega)]; exact h5 x hx) hh
     split at hi1
     ·rename_i hww
      rw[if_pos hww]
      rcases hi1 with hi1 | ⟨e1,a1,w1,e2⟩
      ·exact .inl (Qog go (fun e a w hne hq=>absurd (hq1 e a w hq) hne) hi1)
      ·exact absurd (hq1 _ _ _ e2) (by simp)
     ·rename_i hww
      rw[if_neg hww]
      exact go _ _ hi1
def Qp6:Oper:={ dst:=none,op:=.move (.const (.bool true)),type:=0,pos := "", after:=#[],guard:=none }
def QaI(ops:Array Oper)(k:Nat):Array Oper:=(J6 (k+1) Qp6++ops.toList.drop (k+1)).toArray
theorem QhJ(h:k<ops.size):(QaI ops k).size=ops.size:=by simp[QaI]; omega
theorem QhK(h:k<i):(QaI ops k)[i]?=ops[i]?:=by
 simp only[QaI,Ks]
 rw[Jr (by simp; omega),K6,<- Kq]
 congr 1
 rw[Ji]
 omega
theorem Qi9(h:i<=k):(QaI ops k)[i]?=some Qp6:=by
 simp only[QaI,Ks]
 rw[Jj (by simp; omega),KP,if_pos (by omega)]
theorem Qrc(sp:SplitOk ops k f):∀ (fuel:Nat) (L:Array Bool) (a:Act) (w:World),L.size=ops.size->(∀ i,i<=k->L.getD i false=true)->wpAny P .any (QaI ops k) Q fuel L a w->wpAny P .any ops Q fuel L a w:=by
 have rd:∀ (L:Array Bool),L.size=ops.size->(∀ i,i<=k->L.getD i false=true)->Region.ready .any (QaI ops k) L=Region.ready .any ops L:=by
  intro L hL h
  unfold Region.ready
  rw[QhJ sp.lt]
  refine List.filter_congr fun i hi=>?_
  by_cases hik:i<=k
  ·have hiL:i < L.size:=by rw [hL]; exact JS.1 hi
   have:=h i hik
   have e:L.getD i true=true:=by simpa [hiL] using this
   simp[e]
  ·rw[QhK (by omega)]
 intro fuel
 induction fuel with
 | zero=>intro L a w h1 h2 h; exact⟨by rw[<- rd L h1 h2]; exact h.1,h.2⟩
 | succ fuel ih =>
   intro L a w h1 h2 h
   have e:=rd L h1 h2
   refine⟨fun hr=>h.1 (by rw[e]; exact hr),fun i hi=>?_⟩
   have hi1:=h.2 i (by rw[e]; exact hi)
   obtain⟨r1,r2,r3⟩:=mem_ready'.1 hi
   have hik:k<i:=by
    by_cases hlt:k<i
    ·exact hlt
    ·have:=h2 i (by omega)
     have hiL:i<L.size:=by omega
     have hx:L.getD i true=true:=by simpa [hiL] using this
     rw[hx] at r2
     cases r2
   obtain⟨-,o,ho,hg⟩:=sp.post i hik r1
   unfold wpOp at hi1 |-
   rw[QhK hik,ho] at hi1
   rw[ho]
   dsimp only at hi1 |-
   have hw:∀ y,Region.wanted o y=true:=fun y=>by simp[Region.wanted,hg]
   rw[hw,if_pos rfl] at hi1 |-
   have go:∀ a w,wpAny P .any (QaI ops k) Q fuel (L.setIfInBounds i true) a w->wpAny P .any ops Q fuel (L.setIfInBounds i true) a w:=fun a w hh=>
    ih _ a w (by simpa using h1) (fun x hx=>by rw[getD_set_ne false (by omega)]; exact h2 x hx) hh
   exact hi1.imp (fun hi1=>Qog go (fun e a w _ hq=>hq) hi1) id
theorem QiB(S:St):QmJ P all S Qp6 S ([],false):=by
 refine⟨rfl,true,rfl,.inr (.inl ⟨.bool true,S.hp,rfl,rfl,rfl,rfl,rfl⟩)⟩
theorem Qmx{L:Array Bool}(h:k<n)(hL:∀ i,i<=k->L.getD i false=true):(JC n).countP (fun i=>!L.getD i false)<=n-k-1:=by
 have e:JC n=JC (k+1)++J0 (k+1) (n-k-1):=by
  have e:=Kw (s:=0) (m:=k+1) (n:=n-k-1)
  rw[JA] at e
  rw[J8,J8,e]
  congr 1
  omega
 rw[e,List.countP_append]
 have h0:(JC (k+1)).countP (fun i=>!L.getD i false)=0:=by
  rw[List.countP_eq_zero]
  intro i hi
  have:=hL i (by have:=JS.1 hi; omega)
  simp only[this]
  decide
 have h1:=KX (p:=fun i=>!L.getD i false) (l:=J0 (k+1) (n-k-1))
 simp only[List.length_range'] at h1
 omega
theorem QDE(sp:SplitOk ops k f)(hB:Qe3 (QaI ops k)=true)(hK:∀ β S a w,Sim O β S a w->K S->Q .normal a w)(h:vdr P (QaI ops k).toList (ops.toList.drop (k+1)) (J6 (k+1) ([],false)) K S)(hL:L.size=ops.size)(hLk:∀ i,L.getD i false=decide (i<=k))(hs:Sim O β S a w):wpAny P .any ops Q (ops.size-k-1) L a w:=by
 obtain⟨T,F,t1,t2,t3,t4⟩:=Qer (ops.toList.drop (k+1)) (J6 (k+1) Qp6) (J6 (k+1) ([],false)) S rfl (by simp) h
 simp only[Ji] at t2 t4
 have hF:∀ i,i<=k->F i=([],false):=fun i hi=>t1 i _ (by rw[KP,if_pos (by omega)])
 have hsz:=QhJ sp.lt
 have hlist:(QaI ops k).toList.length=ops.size:=by rw[<- hsz]; simp
 obtain⟨T',hT'⟩:∃ T':Nat->St,T'=fun j=>if j<=k then S else T j:=⟨_,rfl⟩
 have e1:∀ j,j<=k->T' j=S:=fun j hj=>by rw[hT']; exact if_pos hj
 have e2:∀ j,k<j->T' j=T j:=fun j hj=>by rw[hT']; exact if_neg (by omega)
 have hsteps:Steps P (QaI ops k) T' F:=⟨fun j hj=>by
  by_cases hjk:j<=k
  ·refine ⟨Qp6,Qi9 hjk,?_,fun i _ hc=>?_⟩
   ·rw [e1 j hjk,hF j hjk]
    by_cases hj1:j+1<=k
    ·rw[e1 _ hj1]; exact QiB S
    ·rw[e2 _ (by omega),show j+1=k+1 by omega,t2]; exact QiB S
   ·rw [hF j hjk] at hc
    obtain⟨_,x,_,hx⟩:=hc
    simp at hx
  ·obtain ⟨o,g1,g2,g3⟩:=t4 j (by omega) (by simp only [Jd,Ji,Jl,Array.length_toList]; omega)
   refine⟨o,by simp only[QaI,Ks]; exact g1,?_,g3⟩
   rw[e2 j (by omega),e2 (j+1) (by omega)]
   exact g2,hB⟩
 refine Qrc sp _ _ _ _ hL (fun i hi=>by rw[hLk,decide_eq_true hi]) ?_
 refine Qd2 (O:=O) hsteps (fun β a w hk=>hK β _ a w hk ?_) _ L a w β S ?_ hs ?_
 ·rw [hsz,e2 _ sp.lt,<- hlist]
  exact t3
 ·rw [hsz]
  exact Qmx sp.lt fun i hi=>by rw[hLk,decide_eq_true hi]
 ·have k1:T' (k + 1) = S:=by rw [e2 _ (by omega),t2]
  have k0:T' 0=S:=e1 0 (J7 _)
  refine⟨hL.trans hsz.symm,by rw[k0],by rw[k0],by rw[k0],fun i o ho hl e he=>?_,fun t=>⟨k+1,by rw[hsz]; exact sp.lt,by rw[k1],fun i hi _=>by rw[hLk,decide_eq_true (by omega)],fun i hi _=>by rw[hLk,decide_eq_false (by omega)]⟩,
   fun t=>⟨k+1,by rw[hsz]; exact sp.lt,by rw[k1],fun i hi _=>by rw[hLk,decide_eq_true (by omega)],fun i hi _ _=>by rw[hLk,decide_eq_false (by omega)]⟩⟩
  rw[hLk] at hl
  rw[Qi9 (by simpa using hl)] at ho
  cases ho
  simp[Qp6] at he
def QHz(P:Program)(ops:Array Oper)(K:St->Prop)(S:St):Prop:=∀ (O:Org) (β:Map) (a:Act) (w:World),Sim O β S a w->wpAny P .any ops (Ql1 O fun e S=>e=.normal/\K S) ops.size (JP ops.size false) a { w with drawn:=w.drawn+1 }
def QyI(ops:Array Oper)(k:Nat):Bool:=(JC k).all fun i=>match ops[i]? with
 | some o=>(match o.guard with | none=>true | some (j,_)=>decide (j<k))
 | none=>true
def QGE(P:Program)(ops:Array Oper)(k:Nat)(K:St->Prop)(S:St):Prop:=vdr P (QaI ops k).toList (ops.toList.drop (k+1)) (J6 (k+1) ([],false)) K S
theorem VWpG.drawn (hΓ:∀ g,Stable (Γ g)) {id k f:Nat} (hm:P.follows .mixedOrders = true) (hs:Qnh ops k f = true) (hgd:QyI ops k = true) (hB:Qe3 (QaI ops k) = true) (hk':ops.toList[k]? = some o) (h:QHz P (ops.toList.take k).toArray (fun S1=>QK ops.toList S1 o = some true /\
  Qof P Γ o (fun S2 g2=>QGE P ops k (fun S3=>Q .normal S3 g2) S2.reb) S1 g) S.reb):VWpG P Γ (.region id ops true) Q S g:=fun O β a w hw=>by
 have sp:=Qlg hs
 have hk:ops[k]?=some o:=by simpa using hk'
 have hg:∀ i,i<k->∀ o,ops[i]?=some o->o.guard=none\/∃ j b,o.guard=some (j,b)/\j<k:=fun i hi o ho=>by
  have:=JZ.1 hgd i (JS.2 hi)
  rw[ho] at this
  dsimp only at this
  cases hgo:o.guard with
  | none=>exact .inl rfl
  | some jb=>obtain⟨j,b⟩:=jb; rw[hgo] at this; exact .inr ⟨j,b,rfl,by simpa using this⟩
 have hsz:(ops.toList.take k).toArray.size=k:=by have:=sp.lt; simp; omega
 refine wp_region_any hm ?_
 have h1:=h _ _ _ _ hw.reb
 rw[hsz] at h1
 have e:ops.size=k+((ops.size-k-1)+1):=by have:=sp.lt; omega
 have hfalse:∀ n i,(JP n false).getD i false=false:=fun n i=>by
  by_cases hi:i<n<;>simp[hi]
 have key:=QDF (P:=P) (Q:=Qud Γ O Q) (m:=ops.size-k-1) sp hg (fun e a w hq=>by obtain⟨_,_,_,hq,_⟩:=hq; exact hq) (fun L hL hLk a1 w1 hq=>?_) k (JP ops.size false) (JP k false) a { w with drawn:=w.drawn+1 } (by simp) (by simp) (fun i hi=>by rw[hfalse,hfalse]) (fun i hi=>by rw[hfalse] at hi; cases hi) (fun i _=>hfalse _ i) h1
 ·rw [<- e] at key
  exact key
 ·obtain ⟨β1,S1,hs1,-,hg1,hd⟩:=hq
  have hw1:=hw.on (hΓ g) hs1
  unfold wpOp
  rw[hk]
  dsimp only
  rw[QkF hw1 hg1,if_pos rfl]
  refine .inl ?_
  obtain⟨v,w',hrun,β',S',g',h2,h3⟩:=hd O β1 a1 w1 hw1
  have nxt:wpAny P .any ops (Qud Γ O Q) (ops.size-k-1) (L.setIfInBounds k true) (a1.put o.dst v) w':=by
   refine QDE (O:=⟨w',β',S'.hp,(a1.put o.dst v).defers⟩) sp hB (K:=fun S3=>Q .normal S3 g') (fun β3 S3 a3 w3 hs3 hq3=>⟨β3,S3,g',h2.on (hΓ g') hs3,hq3⟩) h3 (by simpa using hL) (fun i=>?_) h2.reb
   by_cases hik:k=i
   ·subst hik
    have:k<L.size:=by rw[hL]; exact sp.lt
    simp[this]
   ·rw [getD_set_ne false hik,hLk]
    congr 1
    exact propext ⟨fun h=>Uj h,fun h=>by omega⟩
  unfold Oper.wp
  rcases hrun with hrun | ⟨hrun,rfl⟩
  ·rw[hrun]; exact nxt
  ·rw[hrun]; exact nxt
end Go.V
namespace Go.V
variable {P:Program}
structure VCallsG(P:Program)(g:FuncId)(args:List DV)(h:Qa)(gh:MapsD)(R:DV->Qa->MapsD->Prop):Prop where
 fn:∃ fn,P.funcs[g]?=some fn/\(fn.name == "runtime.NumGoroutine")=false/\fn.body.isNone=false
 run:∀ (O:Org) (w:World) (β:Map) (vs:Array Value),Evo O.w O.β O.hp w β h->HeapRel w β h->RelL w β h args vs->QAp gh O.w w β h ->
  Calls P g vs w fun e w'=>∃ v r h' β' gh',e=.returned v/\Evo O.w O.β O.hp w' β' h'/\HeapRel w' β' h'/\RelD w' β' h' r v/\MapsD.At (w,β,h) gh' O.w w' β' h'/\R r h' gh'
theorem VCallsG.mono(c:VCallsG P g args h gh R)(hr:∀ r h' gh',R r h' gh'->R' r h' gh'):VCallsG P g args h gh R':=
 ⟨c.fn,fun O w β vs a1 a2 a3 a4=>(c.run O w β vs a1 a2 a3 a4).mono fun _ _ ⟨v,r,h',β',gh',k1,k2,k3,k4,k5,k6⟩=>⟨v,r,h',β',gh',k1,k2,k3,k4,k5,hr _ _ _ k6⟩⟩
theorem Qm4(hf:P.funcs[g]?=some fn)(hb:fn.body=some cd)(hname:(fn.name == "runtime.NumGoroutine")=false)(hn:args.length<=fn.ntmps)(hc:∀ c:QzD,VWpG P (Qje c) cd (fun e S _=>Qc4 P fn.results.toList h.length R e S) ⟨fn.ntmps,h.length,QhT 0 args,h⟩ []):VCalls P g args h R:=
 QgI hf hb hname hn fun O β a w hs hd=>wp_mono (hc (w,β,h) O β a w ⟨hd,hs.size,hs.tm,hs.heap,hs.evo,⟨by simp,by simp⟩,EvoC.refl w β h⟩) fun _ _ _ ⟨β',S',_,h',q⟩=>⟨β',S',⟨h'.size,h'.tm,h'.heap,h'.evo,.inl h'.defers⟩,q⟩
theorem WeakG.slots (hn:S.nt = S'.nt) (hh:S.hp = S'.hp) (ht:∀ p ∈ S'.tm,look S.tm p.1 = p.2\/p.2 = .any):WeakG Γ S g S' g:=fun O β a w hs=>by
 refine⟨β,hs.defers,by rw[<- hn]; exact hs.size,fun t=>?_,by rw[<- hh]; exact hs.heap,by rw[<- hh]; exact hs.evo,by rw[<- hh]; exact hs.g⟩
 have key:∀ (l:List (Nat × DV)),(∀ p ∈ l,look S.tm p.1 = p.2\/p.2 = .any)->RelD w β S.hp (look l t) (a.tmps.getD t undef):=by
  intro l
  induction l with
  | nil=>intro _; exact .any _
  | cons p r ih =>
    intro h
    simp only[look]
    split
    ·rename_i e
     subst e
     rcases h p (by simp) with h | h
     ·rw[<- h]; exact hs.tm _
     ·rw[h]; exact .any _
    ·exact ih fun q hq=>h q (List.mem_cons_of_mem _ hq)
 rw[<- hh]
 exact key _ ht
theorem QvP(h:k<hp.length):Qh (hp++r) k=Qh hp k:=by unfold Qh; rw[Jj h]
theorem QDs(h:hp.length<=k):Qh (hp++r) k=Qh r (k-hp.length):=by unfold Qh; rw[Jr h]
theorem Qqa:(Qv hp k cs).length=hp.length:=by unfold Qv; split<;>simp
theorem Qp9(h:hp.length<=k):Qv (hp++r) k cs=hp++Qv r (k-hp.length) cs:=by
 unfold Qv
 rw[Jr h]
 cases r[k-hp.length]? with
 | some B=>exact List.set_append_right _ _ h
 | none=>rfl
theorem Qyv:(kill hp k).length=hp.length:=QP hp k
theorem QnT(h:j≠k):(kill hp j)[k]?=hp[k]?:=by
 unfold kill
 split
 ·rw[Kk h]
 ·rfl
theorem QqG(h:j≠k):(Qv hp j cs)[k]?=hp[k]?:=by
 unfold Qv
 split
 ·rw[Kk h]
 ·rfl
theorem QyJ{hp r:Qa}{k:Nat}(h:k<hp.length):(hp++r)[k]?=hp[k]?:=Jj h
theorem QuJ{hp r:Qa}{k:Nat}(h:hp.length<=k):(hp++r)[k]?=r[k-hp.length]?:=Jr h
theorem Qyl{hp r:Qa}{k:Nat}{B:Blk}(h:k<hp.length):Ul (hp++r) k B=Ul hp k B++r:=List.set_append_left _ _ h
theorem Qyk{hp:Qa}{k:Nat}{B:Blk}:(Ul hp k B).length=hp.length:=Jw
end Go.V
namespace Go.V
variable {P:Program} {γ:Type} {Γ:γ->World->World->Map->Qa->Prop}
@[congr] def QDH(c:Code)(Q:Exit->St->γ->Prop)(g:γ)(h:S=S'):VWpG P Γ c Q S g=VWpG P Γ c Q S' g:=by rw[h]
@[congr] def QDd(o:Oper)(K:St->γ->Prop)(g:γ)(h:S=S'):Qof P Γ o K S g=Qof P Γ o K S' g:=by rw[h]
@[congr] def QET(ops:Array Oper)(o:Oper)(K:St->γ->Prop)(g:γ)(h:S=S'):OpG P Γ ops o K S g=OpG P Γ ops o K S' g:=by rw[h]
@[congr] def QD0(ops:Array Oper)(K:St->Prop)(h:S=S'):QHz P ops K S=QHz P ops K S':=by rw[h]
@[congr] def QDQ(ops:Array Oper)(ch:List (List Oper×Option Oper))(K:St->γ->Prop)(g:γ)(h:S=S'):QAJ P Γ ops ch K S g=QAJ P Γ ops ch K S' g:=by rw[h]
@[congr] def QAr(g:γ)(S':St)(g':γ)(h:S1=S1'):WeakG Γ S1 g S' g'=WeakG Γ S1' g S' g':=by rw[h]
@[congr] def QDT(ops:Array Oper)(k:Nat)(K:St->Prop)(h:S=S'):QGE P ops k K S=QGE P ops k K S':=by rw[h]
theorem Qf9(Q:Exit->St->γ->Prop)(K:St->γ->Prop)(S:St)(g:γ):Qcv Q K .normal S g=K S g:=rfl
theorem Qj3(Q:Exit->St->γ->Prop)(K:St->γ->Prop)(S:St)(g:γ):Qcv Q K .ret S g=Q .ret S g:=rfl
theorem Qh8(Q:Exit->St->γ->Prop)(K:St->γ->Prop)(id:Nat)(S:St)(g:γ):Qcv Q K (.exit id) S g=Q (.exit id) S g:=rfl
theorem Qhc(id:Nat)(Q:Exit->St->γ->Prop)(S:St)(g:γ):Qgr id Q .normal S g=Q .normal S g:=rfl
theorem Qj4(id id':Nat)(Q:Exit->St->γ->Prop)(S:St)(g:γ):Qgr id Q (.exit id') S g=if id'=id then Q .normal S g else Q (.exit id') S g:=rfl
theorem QEJ(nt base:Nat)(tm:List (Nat×DV))(hp:Qa):St.reb ⟨nt,base,tm,hp⟩=⟨nt,hp.length,tm,hp⟩:=rfl
attribute [go_sem] Qf9 Qj3 Qh8 Qhc Qj4 QEJ Jd QyJ QDs Qp9 Nat.sub_self Qyl Qyk
def Qwl(P:Program)(T:TypeId):Option Value:=(P.info? T).bind (·.zero)
theorem QsQ (h:Qwl P T = some z):∀ w,(zeroValue T).run P w = .ok z w:=fun w=>by
 unfold Qwl at h
 cases hi:P.info? T with
 | none=>rw[hi] at h; cases h
 | some i =>
   rw[hi] at h
   have h':i.zero=some z:=h
   simp[zeroValue,typeInfo,hi,h']
theorem Qwk(h:v.oneCell'=true):∀ (w:World) (β:Map) (hp:Qa),RelD w β hp (.pv (.lit v)) v:=fun _ _ _=>.pv _ _ (.lit _ h)
abbrev kI:Int->Value:=fun x=>.int .i64 x
theorem Qul{κ:Type}{enc:κ->Value}{k:κ}{d:DV}(h:d=.pv (.lit (enc k))):∀ (w:World) (β:Map) (hp:Qa) (v:Value),RelD w β hp d v->v=enc k:=fun w β hp v hr=>by
 subst h
 exact Qk hr
end Go.V
namespace Go.V
end Go.V
namespace Go.V
variable {P:Program} {γ:Type} {Γ:γ->World->World->Map->Qa->Prop}
def QDh (l:List Oper):List Nat->List (List Oper × Option Oper)
 | []=>[(l,none)]
 | k :: r=>match l[k]? with
   | some o=>(l.take k,some o)::QDh (l.drop (k+1)) r
   | none=>[(l,none)]
theorem Qpl:∀ (ks:List Nat) (l:List Oper),Qbw (QDh l ks) = l
 | [],l=>by simp[QDh,Qbw]
 | k :: r,l=>by
   unfold QDh
   cases h:l[k]? with
   | none=>simp[Qbw]
   | some o =>
     simp only[Qbw,Qpl r]
     have hlt:=(Jf.1 h).1
     have e:l[k]=o:=(Jf.1 h).2
     conv=>rhs; rw[<- List.take_append_drop k l]
     congr 1
     rw[List.drop_eq_getElem_cons hlt,e]
def QkO(P:Program)(Γ:γ->World->World->Map->Qa->Prop)(ops:Array Oper)(l:List Oper)(ks:List Nat)(K:St->γ->Prop)(S:St)(g:γ):Prop:=QAJ P Γ ops (QDh l ks) K S g
def QrX(P:Program)(Γ:γ->World->World->Map->Qa->Prop)(ops:Array Oper)(x:Option Oper)(A B:List Oper)(ks:List Nat)(K:St->γ->Prop)(S:St)(g:γ):Prop:=match x with
 | some o=>Qar P ops.toList A (fun S1=>OpG P Γ ops o (QkO P Γ ops B ks K) S1 g) S.reb
 | none=>False
theorem QrW(ops:Array Oper)(l:List Oper)(K:St->γ->Prop)(S:St)(g:γ):QkO P Γ ops l [] K S g=Qar P ops.toList l (fun S1=>K S1 g) S.reb:=rfl
theorem QpO(ops:Array Oper)(o:Oper)(A B:List Oper)(ks:List Nat)(K:St->γ->Prop)(S:St)(g:γ):QrX P Γ ops (some o) A B ks K S g=Qar P ops.toList A (fun S1=>OpG P Γ ops o (QkO P Γ ops B ks K) S1 g) S.reb:=rfl
@[congr] def QAI(ops:Array Oper)(ks:List Nat)(K:St->γ->Prop)(S:St)(g:γ)(h1:x=x')(h2:A=A')(h3:B=B'):QrX P Γ ops x A B ks K S g=QrX P Γ ops x' A' B' ks K S g:=by rw[h1,h2,h3]
@[congr] def QAH(ops:Array Oper)(l:List Oper)(ks:List Nat)(K:St->γ->Prop)(g:γ)(h:S=S'):QkO P Γ ops l ks K S g=QkO P Γ ops l ks K S' g:=by rw[h]
theorem VWpG.cut(hΓ:∀ g,Stable (Γ g)){id:Nat}(ks:List Nat)(h:QkO P Γ ops ops.toList ks (Q .normal) S g):VWpG P Γ (.region id ops false) Q S g:=
 VWpG.region hΓ (QDh ops.toList ks) (Qpl ks _).symm h
theorem QwC(h:QrX P Γ ops l[k]? (l.take k) (l.drop (k+1)) ks K S g):QkO P Γ ops l (k::ks) K S g:=by
 unfold QkO QDh
 cases e:l[k]? with
 | none=>rw[e] at h; exact h.elim
 | some o=>rw[e] at h; exact h
theorem VWpG.cut1(hΓ:∀ g,Stable (Γ g)){id:Nat}(k:Nat)(ks:List Nat)(h:QrX P Γ ops ops.toList[k]? (ops.toList.take k) (ops.toList.drop (k+1)) ks (Q .normal) S g):VWpG P Γ (.region id ops false) Q S g:=VWpG.cut hΓ (k::ks) (QwC h)
attribute [go_sem ↓] QrW QpO
theorem VWpG.mono(h:VWpG P Γ c Q S g)(hq:∀ e S g,Q e S g->Q' e S g):VWpG P Γ c Q' S g:=fun O β a w hs=>
 wp_mono (h O β a w hs) fun _ _ _ ⟨β',S',g',k1,k2⟩=>⟨β',S',g',k1,hq _ _ _ k2⟩
structure FrH(hp h':Qa)(A:Nat->Prop):Prop where
 len:hp.length<=h'.length
 same:∀ j,j<hp.length->¬ A j->h'[j]?=hp[j]?
theorem FrH.refl(hp:Qa)(A:Nat->Prop):FrH hp hp A:=⟨Jp _,fun _ _ _=>rfl⟩
theorem FrH.app(h:FrH hp h' A)(r:Qa):FrH hp (h'++r) A:=⟨by rw[Jd]; have:=h.len; omega,fun j hj ha=>by rw[Jj (Jk hj h.len)]; exact h.same j hj ha⟩
theorem FrH.set(h:FrH hp h' A)(hk:A k)(cs:List DV):FrH hp (Qv h' k cs) A:=⟨by rw[Qqa]; exact h.len,fun j hj ha=>by rw[QqG (fun e=>ha (by rw[<- e]; exact hk))]; exact h.same j hj ha⟩
theorem FrH.kill{hp h':Qa}{A:Nat->Prop}(h:FrH hp h' A){k:Nat}(hk:A k):FrH hp (kill h' k) A:=⟨by rw[Qyv]; exact h.len,fun j hj ha=>by rw[QnT (fun e=>ha (by rw[<- e]; exact hk))]; exact h.same j hj ha⟩
theorem FrH.trans(h:FrH hp h1 A)(g:FrH h1 h2 B)(hAB:∀ j,j<hp.length->B j->A j):FrH hp h2 A:=⟨Kp h.len g.len,fun j hj ha=>by rw[g.same j (Jk hj h.len) (fun hb=>ha (hAB j hj hb))]; exact h.same j hj ha⟩
theorem Qq9(h:h'[k]?=hp[k]?):Qh h' k=Qh hp k:=by unfold Qh; rw[h]
end Go.V
namespace Go.V
open Go.RowKit (Below)
def VWp0.postK(h:VWp0 P c (QfK P rs n R) S):VWp0 P c (Qc4 P rs n R) S:=fun O β a w hs hd=>
 wp_mono (h O β a w hs hd) fun _ _ _ ⟨β',_,hs',hq⟩=>⟨β',_,hs'.on (Qlp hs'.reb),hq⟩
def QkX(hf:P.funcs[g]?=some fn)(hb:fn.body=some c)(hname:(fn.name == "runtime.NumGoroutine")=false)(hn:args.length<=fn.ntmps)(hc:VWp0 P c (QfK P fn.results.toList h.length R) ⟨fn.ntmps,h.length,QhT 0 args,h⟩):VCalls P g args h R:=QgI hf hb hname hn hc.postK
def Qip{rd:Option Nat}{n l:Nat}{o:Oper}{c:Call}{f:Operand}{a:Act}{next:Act->World->Prop}{Q:Exit->Act->World->Prop}{R:Ending->World->Prop}(hop:o.op=.call c)(hcal:c.callee=.value f)(hf:a.eval f=.func (.yield l) #[] #[]){args:Array Value}(hargs:c.args.map a.eval=args)(hY:YieldAt (wd rd) (n-1) P l args W R)(hn:∀ e W',R e W'->∃ v,e=.returned v/\next (a.put o.dst v) W'):o.wpIn (wd rd) n P a W next Q:=by
 obtain⟨fn,tmps,assign,body,hy,hR⟩:=hY
 have hrun:(execOp a.eval o).run P W=.ok (.round l fn tmps assign body) W:=by
  subst hargs
  simp[execOp,hop,resolve,hcal,hf,Deferred.ofValue,invoke,hy]
 refine⟨fun _ _=>trivial,?_⟩
 rw[Oper.semAt_plain _ _ _ (by rw[hop]; intro c h; cases h),hrun,Oper.uponIn_round]
 refine⟨fun h=>by simp[Fence.wide] at h,hR.mono ?_⟩
 intro e W' hr
 obtain⟨v,rfl,hv⟩:=hn e W' hr
 exact hv
def PV.fix:PV->Bool
 | .lit v=>v.oneCell'
 | .str _=>true
 | _=>false
def PV.val:PV->Value
 | .lit v=>v
 | .str l=>.string ⟨l.toArray⟩
 | _=>undef
def PV.fix_rel(h:p.fix=true):RelP w im p p.val:=by
 cases p with
 | lit v=>exact .lit v h
 | str l=>exact .str l
 | _=>simp[PV.fix] at h
def PV.fix_eq(h:p.fix=true)(hr:RelP w im p v):v=p.val:=by
 cases hr with
 | lit v _=>rfl
 | str l=>rfl
 | _=>simp[PV.fix] at h
def QiO:RelD w β hp (.fn (.yield l) [] []) (.func (.yield l) #[] #[]):=.fn _ [] [] #[] #[] rfl rfl (by simp) (by simp)
def Qd6:Map:=⟨fun _=>none,fun _=>False⟩
def QuG(w:World):HeapRel w Qd6 []:=⟨fun k B b h=>by simp at h,fun k B h=>by simp at h,fun j k B B' b h=>by simp at h,fun k B b h=>by simp at h,fun b h=>h.elim⟩
def QG8:¬ img Qd6 [] b:=by
 rintro(h | ⟨k,B,h,_⟩)
 ·exact h
 ·simp at h
def Evo.quiet(e:Evo w Qd6 [] w' β []):w.grownBy w' none:=by
 refine⟨e.os,e.tape,e.output,e.size,fun k hk _=>e.same k hk ?_⟩
 rintro⟨j,B,h,_⟩
 simp at h
structure ItA(l:Nat)(vcap:Value)(a:Act):Prop where
 s:a.tmps.size=19
 y:a.tmps.getD 0 undef=.func (.yield l) #[] #[]
 c:a.tmps.getD 1 undef=vcap
def QdS {a:Act} (h:dst ≠ some t) (v:Value):(a.put dst v).tmps.getD t undef = a.tmps.getD t undef:=by
 cases dst with
 | none=>rfl
 | some u =>
   have e:u≠t:=fun e=>h (by rw[e])
   simp[Act.put,JQ,e]
def ItA.put{l:Nat}{vcap:Value}(h:ItA l vcap a){dst:Option Tmp}(h0:dst≠some 0)(h1:dst≠some 1)(v:Value):ItA l vcap (a.put dst v):=
 ⟨by rw[QdK]; exact h.s,by rw[QdS h0]; exact h.y,by rw[QdS h1]; exact h.c⟩
def QeG (h:RelD w β hp (.fn (.yield l) [] []) v):v = .func (.yield l) #[] #[]:=by
 cases h with
 | fn _ _ _ vs us l1 l2 _ _ =>
   rw[Kc l1.symm,Kc l2.symm]
def QeH{rd:Option Nat}{n id:Nat}{ops:Array Oper}{Q:Exit->Act->World->Prop}{K:St->Prop}{T:Act->Prop}(hs:Sim O β S a w)(ht:T a)(h:Qar P ops.toList ops.toList K S)(hT:∀ o∈ops.toList,∀ (a:Act) (v:Value),T a->T (a.put o.dst v))(hK:∀ β S a w,Sim O β S a w->T a->K S->Q .normal a w):(Code.region id ops false).wpIn (wd rd) n P Q a w:=by
 refine wpIn_region ?_
 have:=QaS (P:=P) (rd:=rd) (n:=n) (O:=O) (ops:=ops) (Q:=Q) (tail:=[]) hT (K:=K) (fun β S a w h1 h2 h3=>hK β S a w h1 h2 h3) ops.toList [] [] (by simp) β S a w hs ht h
 simpa [J8] using this
def QfI(hi:ops[i]?=some o)(hw:Region.wanted o (yielded ops a.tmps)=true)(h:o.wpIn F n P a w (wpOpsIn F n P ops Q rest) Q):wpOpsIn F n P ops Q (i::rest) a w:=by
 simp only[wpOpsIn,hi,hw,if_true]; exact h
structure ItI(w:World)(β:Map)(hp:Qa)(l:Nat)(vcap:Value)(n:Nat)(J:List (Fin n)->World->Prop)(k:Nat)(a:Act)(W:World):Prop where
 hk:k<=n
 d:a.defers=[]
 it:ItA l vcap a
 i:a.tmps.getD 3 undef=.int .i64 ((k:Int)-1)
 L:Lies w β hp W
 j:J ((down n).take (n-k)) W
end Go.V
