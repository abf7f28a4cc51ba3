/-
  Contracts of functions and plain laws. No condition.
-/
import Derived.Test.YtdnbdbgdfocpgaaGreatV2
import Derived.Lib.Builder
import Derived.Lib.Overlaps
import Derived.RangeFuncWrites
import Derived.RangeFuncLeaves
import Derived.RangeFuncCalls
import Derived.OwnWalkIn
import Derived.OrdersIn
import Derived.RangeFuncNested
import Derived.MapKept
set_option linter.unusedSimpArgs false
set_option linter.unusedVariables false
set_option linter.defProp false
set_option maxRecDepth 100000
set_option maxHeartbeats 8000000
set_option autoImplicit true
set_option relaxedAutoImplicit true
open Array renaming getElem?_eq_some_iff->Je,replicate->Jq,getD_eq_getD_getElem?->JC,getElem?_eq_getElem->JD,getElem?_toList->Kp,getElem?_setIfInBounds->Kv,getElem?_append_left->KB,getElem?_modify->KS
open Bool renaming and_eq_true->Jp,and_eq_false_imp->JX,not_eq_eq_eq_not->JY,or_eq_false_iff->J2,or_eq_true->J3,not_eq_false'->J5,not_eq_true'->J7,not_false->J9,false_eq_true->Kb,not_true->Ke
open Int renaming reduceToNat->JB,reduceNeg->JL,reduceAdd->JM,reduceSub->JN,reduceMul->JO,reduceBEq->JP,reduceBNe->JQ,reduceLT->JU,reduceLE->JV,reduceEq->JW,not_lt->KD,not_le->KE
open List renaming getElem?_eq_getElem->Ja,getElem?_eq_some_iff->Jb,length_cons->Jc,getElem?_map->Jd,length_map->Jf,length_nil->Jg,getElem?_append_left->Jh,length_append->Ji,length_replicate->Jk,getD_eq_getElem?_getD->Jl,getElem?_append_right->Jo,map_cons->Jr,length_drop->Js,getElem?_eq_none->Jt,length_set->Jw,length_take->Jx,range->JA,replicate->JF,getElem?_set->JR,mem_range->JS,all_eq_true->JZ,range'->J0,getElem?_set_ne->J1,mem_map->J4,findIdx?_cons->J6,eq_nil_iff_forall_not_mem->J8,getElem?_set_self->Ka,idxOf_lt_length_of_mem->Kc,ext_getElem?->Kd,range_eq_range'->Kf,drop_zero->Kg,cons_append->Kh,replicate_succ->Ki,mem_append->Kj,take_of_length_le->Kl,countP_le_length->Ko,getElem?_toArray->Kq,range'_append_1->Ku,map_append->Kw,length->Kx,drop_left'->Ky,getElem?_range->Kz,getElem?_cons_succ->KJ,mem_cons->KK,getElem?_replicate->KL,map_nil->KM,append_nil->KN,nil_append->KO,idxOf_cons->KP,getElem?_mapIdx->KU,mem_of_getElem?->KV,mem_cons_of_mem->KW,set_append_left->KX,take_succ_cons->KZ,drop_succ_cons->K0,getElem?_drop->K3,flatten_cons->K4,any_eq_true->K7,mem_toArray->K8,range'_zero->K9,range'_succ->Ua,set->Ub,take_left'->Uc,mem_filter->Ud,drop_drop->Ue,map_set->Ug,map_map->Uj
open Nat renaming lt_of_lt_of_le->Jj,le_refl->Jm,reduceAdd->Jn,zero_add->Ju,reduceLeDiff->Jy,reduceEqDiff->Jz,zero_le->JE,reduceMul->JG,reduceSub->JH,reduceBEq->JI,reduceDiv->JJ,reducePow->JK,reduceLT->JT,not_lt_zero->Kk,add_mul->Km,le_of_not_lt->Kr,strongRecOn->KA,lt_trichotomy->KC,not_lt->KF,not_le->KG,one_mul->KH,lt_trans->KQ,le_trans->KR,le_of_ble_eq_true->KT,one_pos->KY,add_right_comm->K2,add_comm->K5,sub_self->K6,zero_mul->Uf,lt_or_ge->Uh,sub_zero->Ui,le_of_lt->Uk,mul_one->Ul
open Option renaming map_some->Jv,getD_some->Ks,bind_some->Kt,some->K1
namespace Go.V
structure Enc(α:Type) where
 sz:Nat
 enc:α->List PV
 hsz:0<sz
 hlen:∀ a,(enc a).length=sz
def cells{α:Type}(e:Enc α)(l:List α):List DV:=(l.map fun a=>(e.enc a).map DV.pv).flatten
def fz{α:Type}(e:Enc α)(l:List α):List (List PV):=l.map e.enc
def Q8:Enc Int:=⟨1,fun n=>[.lit (.int .i64 n)],KY,fun _=>rfl⟩
def QHI:Enc Bool:=⟨1,fun b=>[.lit (.bool b)],KY,fun _=>rfl⟩
def QfT:Enc UInt8:=⟨1,fun b=>[.lit (.int .u8 b.toNat)],KY,fun _=>rfl⟩
section
variable {α:Type} (e:Enc α)
theorem Qmc(l:List α):(fz e l).length=l.length:=by simp[fz]
theorem QiV(l:List α)(i:Nat)(h:i<l.length):(fz e l)[i]?=some (e.enc l[i]):=by
 rw[fz,Jd,Ja h]; rfl
theorem QuQ(l:List α)(n:Nat):(fz e l).take n=fz e (l.take n):=by simp[fz,List.map_take]
theorem QCm(l:List α)(n:Nat):(fz e l).drop n=fz e (l.drop n):=by simp[fz,List.map_drop]
theorem Qj8(l:List α):((fz e l).flatten).map DV.pv=cells e l:=by
 induction l with
 | nil=>rfl
 | cons a r ih=>simp only[fz,cells,Jr,K4,Kw] at ih |-; rw[ih]
theorem Qo2(l:List α)(h:0<l.length):(fz e l)[0]?.map Kx=some e.sz:=by
 rw[QiV e l 0 h]; simp[e.hlen]
theorem QL(a:α)(l:List α):cells e (a::l)=(e.enc a).map DV.pv++cells e l:=rfl
theorem QF(a b:List α):cells e (a++b)=cells e a++cells e b:=by simp[cells]
theorem QS(l:List α):(cells e l).length=l.length*e.sz:=by
 induction l with
 | nil=>simp[cells]
 | cons a r ih=>rw[QL,Ji,ih,Jf,e.hlen,Jc,Km]; omega
theorem QEL(ha:DV.nums.go p a=true)(hb:DV.nums.go p b=true):DV.nums.go p (a++b)=true:=by
 induction a with
 | nil=>exact hb
 | cons x r ih=>simp only[Kh,DV.nums.go,Jp] at ha |-; exact⟨ha.1,ih ha.2⟩
theorem QgA(p:Nat->Bool):∀ (l:List PV),DV.nums.go p (l.map DV.pv)=true
 | []=>rfl
 | _::r=>QgA p r
theorem QoE(n:Nat):∀ (l:List PV),DV.refs.go n (l.map DV.pv)=true
 | []=>rfl
 | _::r=>QoE n r
theorem Qfm(l:List α):cells e l=((l.map e.enc).flatten).map DV.pv:=by
 induction l with
 | nil=>rfl
 | cons a r ih=>rw[QL,Jr,K4,Kw,ih]
theorem Qs(p:Nat->Bool)(l:List α):DV.nums.go p (cells e l)=true:=by rw[Qfm]; exact QgA p _
theorem QqX(n:Nat)(l:List α):DV.refs.go n (cells e l)=true:=by rw[Qfm]; exact QoE n _
theorem QtJ (n:Nat) (hp:Qa):∀ (l:List PV),Qi ((l.map DV.pv).map (Qc3 n hp)) = some (l.map DV.pv)
 | []=>rfl
 | a :: r=>by
   have:=QtJ n hp r
   simp only[Jr,Qi,Qc3] at this |-
   rw[this]; rfl
theorem QoF (n:Nat) (hp:Qa) (f:Nat):∀ (l:List PV),Qi ((l.map DV.pv).map (QhB n hp f)) = some l
 | []=>rfl
 | a :: r=>by
   have:=QoF n hp f r
   have h1:QhB n hp f (.pv a)=some a:=by cases f<;>rfl
   simp only[Jr,Qi,h1] at this |-
   rw[this]; rfl
theorem QvL(n:Nat)(hp:Qa)(l:List α):Qi ((cells e l).map (Qc3 n hp))=some (cells e l):=by rw[Qfm]; exact QtJ n hp _
theorem Qy3 (l:List α) (i:Nat) (h:i < l.length):((cells e l).drop (i * e.sz)).take e.sz = (e.enc l[i]).map DV.pv:=by
 induction l generalizing i with
 | nil=>simp at h
 | cons a r ih =>
   have ha:((e.enc a).map DV.pv).length=e.sz:=by rw[Jf,e.hlen]
   cases i with
   | zero=>rw[Uf,Kg,QL,Uc ha]; rfl
   | succ i =>
     have hi:i<r.length:=by simpa using h
     rw[QL,Km,KH,K5,<- Ue,Ky ha,ih i hi]; rfl
theorem QqW (l:List α) (n:Nat):(cells e l).take (n * e.sz) = cells e (l.take n):=by
 induction l generalizing n with
 | nil=>simp[cells]
 | cons a r ih =>
   have ha:((e.enc a).map DV.pv).length=e.sz:=by rw[Jf,e.hlen]
   cases n with
   | zero=>simp[cells]
   | succ n=>rw[QL,KZ,QL,Km,KH,K5,<- ha,List.take_append,Nat.add_sub_cancel_left,ha,ih,Kl (by omega)]
theorem QfV (l:List α) (n:Nat):(cells e l).drop (n * e.sz) = cells e (l.drop n):=by
 induction l generalizing n with
 | nil=>simp[cells]
 | cons a r ih =>
   have ha:((e.enc a).map DV.pv).length=e.sz:=by rw[Jf,e.hlen]
   cases n with
   | zero=>simp
   | succ n=>rw[QL,K0,Km,KH,K5,<- Ue,Ky ha,ih]
theorem QdY (n:Nat) (hp:Qa) (f:Nat):∀ (l:List α),Qi ((rows e.sz l.length (cells e l)).map fun r=>Qi (r.map (QhB n hp f))) = some (fz e l)
 | []=>rfl
 | a :: l=>by
   have ha:((e.enc a).map DV.pv).length=e.sz:=by rw[Jf,e.hlen]
   have hr:rows e.sz (a::l).length (cells e (a::l))=(e.enc a).map DV.pv::rows e.sz l.length (cells e l):=by
    rw[Jc,rows,QL,Uc ha,Ky ha]
   rw[hr,Jr,QoF]
   show(Qi _).map _=_
   rw[QdY n hp f l]; rfl
theorem Qln (sz n:Nat) (l m:List DV) (h:n * sz<=l.length):rows sz n (l ++ m) = rows sz n l:=by
 induction n generalizing l with
 | zero=>rfl
 | succ n ih =>
   rw[Km,KH] at h
   rw[rows,rows,List.take_append_of_le_length (by omega),List.drop_append_of_le_length (by omega),ih _ (by rw[Js]; omega)]
end
def Qpe(l:List Int):cells Q8 l=l.map (DV.int .i64):=by
 induction l with
 | nil=>rfl
 | cons a r ih=>rw[QL,ih]; rfl
def Qz0(l:List UInt8):cells QfT l=l.map fun b=>.pv (.lit (.int .u8 b.toNat)):=by
 induction l with
 | nil=>rfl
 | cons a r ih=>rw[QL,ih]; rfl
def Qq1(l:List Int):(cells Q8 l).length=l.length:=by rw[Qpe,Jf]
def QdZ(l:List UInt8):(cells QfT l).length=l.length:=by rw[Qz0,Jf]
def QfW(l:List Int)(i:Nat)(h:i<l.length):(cells Q8 l)[i]?=some (.int .i64 (l.getD i 0)):=by
 rw[Qpe,Jd,Jl,Ja h]; rfl
def Qi3(l:List Int)(i:Nat)(n:Int):(cells Q8 l).set i (.pv (.lit (.int .i64 n)))=cells Q8 (l.set i n):=by rw[Qpe,Qpe,Ug]
def Q7(l:List Int)(i:Nat)(h:i<l.length):(fz Q8 l)[i]?=some [.lit (.int .i64 (l.getD i 0))]:=by
 rw[QiV Q8 l i h,Jl,Ja h]; rfl
def QuR(l:List UInt8)(i:Nat)(h:i<l.length):(fz QfT l)[i]?=some [.lit (.int .u8 (l.getD i 0).toNat)]:=by
 rw[QiV QfT l i h,Jl,Ja h]; rfl
def mkI(n:Nat):mk [.pv (.lit (.int .i64 0))] n=cells Q8 (JF n 0):=by
 induction n with
 | zero=>rfl
 | succ n ih=>rw[Ki,QL,<- ih]; rfl
def mkB(n:Nat):mk [.pv (.lit (.bool false))] n=cells QHI (JF n false):=by
 induction n with
 | zero=>rfl
 | succ n ih=>rw[Ki,QL,<- ih]; rfl
def mkU(n:Nat):mk [.pv (.lit (.int .u8 0))] n=cells QfT (JF n 0):=by
 induction n with
 | zero=>rfl
 | succ n ih=>rw[Ki,QL,<- ih]; rfl
def QhC(n:Nat)(hp:Qa)(off sz len:Nat)(x:Option (List DV)):Option PV:=match x with
 | some cs=>if off+len*sz<=cs.length/\0<sz then (Qi ((rows sz len (cs.drop off)).map fun r=>Qi (r.map (QhB n hp 3)))).map .sl else none
 | none=>none
theorem Qo4:QhB n hp 4 (.own k sz off len)=if k<n then none else QhC n hp off sz len (Qc hp k):=rfl
def QCr:QhB n hp f (.pv p)=some p:=by cases f<;>rfl
def Q4(e:Enc α)(h:l.length=len):QhC n hp 0 e.sz len (some (cells e l))=some (.sl (fz e l)):=by
 subst h
 simp only[QhC]
 rw[if_pos ⟨by rw[QS]; omega,e.hsz⟩,Kg,QdY]; rfl
def QES(h:l.length=len):QhC n hp 0 1 len (some (cells Q8 l))=some (.sl (fz Q8 l)):=Q4 Q8 h
def PV.wk:PV->PV
 | .slc xs=>.sl xs
 | p=>p
def DV.wk:DV->DV
 | .pv p=>.pv p.wk
 | .agg cs=>.agg (go cs)
 | .tup cs=>.tup (go cs)
 | d=>d
where
 go:List DV->List DV
  | []=>[]
  | d::r=>d.wk::go r
def Q5:∀ (ds:List DV),DV.wk.go ds=ds.map DV.wk
 | []=>rfl
 | d::r=>by rw[DV.wk.go,Q5 r]; rfl
def RelP.wk(h:RelP w im p v):RelP w im p.wk v:=by
 cases h with
 | slc xs a sz val h1 h2 h3 h4 h5=>exact .sl xs a xs.length sz val (Jm _) h1 h2 h3 h4 h5
 | lit v h=>exact .lit v h
 | str l=>exact .str l
 | sl xs a cap sz val h1 h2 h3 h4 h5 h6=>exact .sl xs a cap sz val h1 h2 h3 h4 h5 h6
def RelD.wk (h:RelD w β hp d v):RelD w β hp d.wk v:=by
 induction h with
 | pv p v h=>exact .pv _ _ h.wk
 | ptr k off b h hb=>exact .ptr k off b h hb
 | own k sz off len cap b C T m h hb h1 h2 h3 h4=>exact .own k sz off len cap b C T m h hb h1 h2 h3 h4
 | ownc k sz off len cap b o C T m h hb h1 h2 h3 h4 h5=>exact .ownc k sz off len cap b o C T m h hb h1 h2 h3 h4 h5
 | own0 k sz a h hb ha=>exact .own0 k sz a h hb ha
 | ip cs ad val h1 h2 h3=>exact .ip cs ad val h1 h2 h3
 | agg ds vs h _ ih =>
   refine .agg _ vs (by rw[Q5,Jf]; exact h) (fun i d hd=>?_)
   rw[Q5,Jd] at hd
   obtain⟨x,h1,h2⟩:=Qy hd
   subst h2; exact ih i x h1
 | fn f ds es vs us h h' h1 h2 _ _=>exact .fn f ds es vs us h h' h1 h2
 | tup ds vs h _ ih =>
   refine .tup _ vs (by rw[Q5,Jf]; exact h) (fun i d hd=>?_)
   rw[Q5,Jd] at hd
   obtain⟨x,h1,h2⟩:=Qy hd
   subst h2; exact ih i x h1
 | opt c d v h hf _=>exact .opt c d v h hf
 | any v=>exact .any v
mutual
def Qru(p:Nat->Bool):∀ (d:DV),d.nums p=true->d.wk.nums p=true
 | .pv _,_=>rfl
 | .ptr _ _,h=>h
 | .own _ _ _ _,h=>h
 | .ownc _ _ _ _ _,h=>h
 | .ip _,_=>rfl
 | .any,_=>rfl
 | .agg cs,h=>by simp only[DV.nums] at h; simp only[DV.wk,DV.nums]; exact Qfr p cs h
 | .tup cs,h=>by simp only[DV.nums] at h; simp only[DV.wk,DV.nums]; exact Qfr p cs h
 | .fn _ _ _,h=>h
 | .opt _ _,h=>h
def Qfr (p:Nat->Bool):∀ (ds:List DV),DV.nums.go p ds = true->DV.nums.go p (DV.wk.go ds) = true
 | [],_=>rfl
 | d :: r,h=>by
   simp only[DV.nums.go,Jp] at h
   simp only[DV.wk.go,DV.nums.go,Jp]
   exact⟨Qru p d h.1,Qfr p r h.2⟩
end
abbrev QHd(d:DV):DV->Qa->Prop:=fun r h'=>h'=[]/\r.nums (fun _=>false)=true/\r.wk=d
def VCalls.unwk(c:VCalls P g args h (QHd d)):VCalls P g args h (Ret d):=
 ⟨fun w β vs hh ha=>(c.run w β vs hh ha).mono fun _ _ ⟨v,r,h',β',a,b,c,e,k1,k2,k3⟩=>⟨v,d,h',β',a,b,c,k3▸e.wk,k1,k3▸Qru _ r k2,rfl⟩⟩
def Qzm:∀ (l:List PV),(∀ p∈l,p.wk=p)->DV.wk.go (l.map DV.pv)=l.map DV.pv
 | [],_=>rfl
 | a::r,h=>by simp only[Jr,DV.wk.go,DV.wk]; rw[h a (by simp),Qzm r fun p hp=>h p (by simp[hp])]
def Qbr(e:Enc α)(l:List α)(h:∀ a,∀ p∈e.enc a,p.wk=p):DV.wk.go (cells e l)=cells e l:=by
 rw[Qfm]
 refine Qzm _ fun p hp=>?_
 obtain⟨c,hc,hp⟩:=List.mem_flatten.1 hp
 obtain⟨a,_,rfl⟩:=J4.1 hc
 exact h a p hp
def QHk(l:List Int):DV.wk.go (cells Q8 l)=cells Q8 l:=Qbr Q8 l fun a p hp=>by simp[Q8] at hp; subst hp; rfl
theorem QxP:Qnt (.pv p)=[]:=rfl
def Qyp (e:Enc α) (l:List α) (h:0 < l.length):Qqn (.pv (.sl (fz e l))) = some false:=by
 cases l with
 | nil=>simp at h
 | cons a r =>
   have hl:=e.hlen a
   have hs:=e.hsz
   simp only[fz,Jr]
   cases he:e.enc a with
   | nil=>rw[he] at hl; simp at hl; omega
   | cons p c=>rfl
end Go.V
namespace Go.V
open Go.Lib
def bts(P:Program)(S T:TypeId):Bool:=match P.underlying S,P.underlying T with
 | some (.slice e),some .string=>(match P.underlying e with | some (.int .u8)=>true | _=>false)
 | _,_=>false
def QAy (hp:Qa) (off len:Nat) (b:Option (List DV)):Option (DV × Qa):=match b with
 | some cs=>if off + len<=cs.length then match Qb9 ((cs.drop off).take len) with
   | some l=>if l.length=len then some (.pv (.str l),hp) else none
   | none=>none
   else none
 | none=>none
def QgN (h:bts P S T = true):Qbs P hp S T (.own k 1 off len) = QAy hp off len (Qc hp k):=by
 unfold bts at h
 split at h
 ·rename_i e hs ht
  split at h
  ·rename_i he
   unfold Qbs Qdd QAy
   simp only[hs,ht,he,Qy7,QmS]
   cases Qc hp k with
   | none=>rfl
   | some cs =>
     simp only[Ul,true_and]
     by_cases hc:off+len<=cs.length
     ·simp only [if_pos hc]
      cases hb:Qb9 ((cs.drop off).take len) with
      | none=>rfl
      | some l =>
        simp only
        by_cases hl:l.length=len
        ·simp only[if_pos hl]; rfl
        ·simp only[if_neg hl]; rfl
     ·simp only[if_neg hc]; rfl
  ·cases h
 ·cases h
def Qkk(l:List UInt8):Qb9 (cells QfT l)=some l:=by
 rw[Qz0]
 induction l with
 | nil=>rfl
 | cons b l ih=>simp only[Jr,Qb9,ih]; simp
theorem QwA:QAy hp 0 1 (some [.pv (.lit (.int .u8 n))])=some (.pv (.str [UInt8.ofNat n.toNat]),hp):=rfl
end Go.V
namespace Go.V
def aft(o:Oper)(l:List Nat):Oper:={ o with after:=(o.after.toList++l.map fun i=>(⟨i,.data⟩:Edge)).toArray }
def Qzr(D:List (List Nat)):Nat->List Oper->List Oper
 | _,[]=>[]
 | j,o::r=>aft o (D.getD j [])::Qzr D (j+1) r
def tcl(ops:Array Oper)(D:List (List Nat)):Array Oper:=(Qzr D 0 ops.toList).toArray
def dOk(ops:Array Oper)(D:List (List Nat)):Bool:=
 (JA ops.size).all fun j=>(D.getD j []).all fun i=>bnd ops j i||(JA ops.size).any fun m=>bnd ops j m&&(D.getD m []).contains i
def Qoh (D:List (List Nat)):∀ (l:List Oper) (j i:Nat),(Qzr D j l)[i]? = l[i]?.map fun o=>aft o (D.getD (j + i) [])
 | [],j,i=>by simp[Qzr]
 | o::r,j,0=>by simp[Qzr]
 | o :: r,j,i + 1=>by
   simp only[Qzr,KJ]
   rw[Qoh D r (j+1) i,K2]; rfl
def Qg6(ops:Array Oper)(D:List (List Nat))(i:Nat):(tcl ops D)[i]?=ops[i]?.map fun o=>aft o (D.getD i []):=by
 have:=Qoh D ops.toList 0 i
 simpa [tcl] using this
def Qog(D:List (List Nat)):∀ (l:List Oper) (j:Nat),(Qzr D j l).length=l.length
 | [],_=>rfl
 | o::r,j=>by simp[Qzr,Qog D r]
def QwN(ops:Array Oper)(D:List (List Nat)):(tcl ops D).size=ops.size:=by simp[tcl,Qog]
section
variable {P:Program} {ops:Array Oper} {D:List (List Nat)} {Q:Exit->Act->World->Prop}
theorem Qsr(i:Nat):((tcl ops D)[i]?).bind (·.dst)=(ops[i]?).bind (·.dst):=by
 rw[Qg6]; cases ops[i]?<;>rfl
theorem Qm7(tmps:Array Value):yielded (tcl ops D) tmps=yielded ops tmps:=by
 funext j
 unfold yielded
 rw[Qsr]
theorem QwM (h:wpOp P (tcl ops D) Q i K a w):wpOp P ops Q i K a w:=by
 unfold wpOp at h |-
 rw[Qg6] at h
 cases ho:ops[i]? with
 | none=>simpa [ho] using h
 | some o =>
   simp only[ho,Jv] at h |-
   rw[Qm7] at h
   exact h
def Cl(D:List (List Nat))(L:Array Bool):Prop:=∀ j,j<L.size->L.getD j false=true->∀ i∈D.getD j [],L.getD i false=true
theorem Qk7(hd:dOk ops D=true)(hs:L.size=ops.size)(hc:Cl D L)(i:Nat)(h:i∈Region.ready .any ops L):i∈Region.ready .any (tcl ops D) L/\∀ m∈D.getD i [],L.getD m false=true:=by
 obtain⟨h0,o,ho,hdep⟩:=mem_ready.1 h
 have hlt:i<ops.size:=(Je.1 ho).1
 have key:∀ m∈D.getD i [],L.getD m false=true:=by
  intro m hm
  have h1:=JZ.1 hd i (JS.2 hlt)
  have h2:=JZ.1 h1 m hm
  rw[J3] at h2
  have dep:∀ x,bnd ops i x=true->L.getD x false=true:=by
   intro x hx
   unfold bnd at hx
   rw[ho] at hx
   simp only[K7,Jp,beq_iff_eq] at hx
   obtain⟨e,he,hb,rfl⟩:=hx
   exact hdep e (by simpa using he) hb
  rcases h2 with h2 | h2
  ·exact dep m h2
  ·obtain ⟨x,hx,h3⟩:=K7.1 h2
   rw[Jp] at h3
   exact hc x (by rw[hs]; exact JS.1 hx) (dep x h3.1) m (by simpa using h3.2)
 refine⟨mem_ready.2 ⟨h0,aft o (D.getD i []),by rw[Qg6,ho]; rfl,fun e he hb=>?_⟩,key⟩
 simp only[aft,K8,Kj,J4] at he
 rcases he with he | ⟨m,hm,rfl⟩
 ·exact hdep e (by simpa using he) hb
 ·exact key m hm
theorem QeG (hs:L.size = ops.size) (hd:dOk ops D = true) (hc:Cl D L):(Region.ready .any ops L = [] ↔ Region.ready .any (tcl ops D) L = []):=by
 constructor
 ·intro h
  apply J8.2
  intro j hj
  obtain⟨h0,o,ho,hdep⟩:=mem_ready.1 hj
  rw[Qg6] at ho
  cases hj':ops[j]? with
  | none=>rw[hj'] at ho; cases ho
  | some o' =>
    rw[hj'] at ho
    simp only[Jv,K1.injEq] at ho
    subst ho
    have:j∈Region.ready .any ops L:=mem_ready.2 ⟨h0,o',hj',fun e he hb=>hdep e (by simp only[aft,K8,Kj]; exact .inl (by simpa using he)) hb⟩
    rw[h] at this; cases this
 ·intro h
  apply J8.2
  intro j hj
  have:=(Qk7 hd hs hc j hj).1
  rw[h] at this; cases this
theorem Qk6 (hd:dOk ops D = true):∀ (fuel:Nat) (L:Array Bool) (a:Act) (w:World),L.size = ops.size->Cl D L->wpAny P .any (tcl ops D) Q fuel L a w->wpAny P .any ops Q fuel L a w
 | 0,L,a,w,hs,hc,h=>⟨(QeG hs hd hc).2 h.1,h.2⟩
 | fuel + 1,L,a,w,hs,hc,h=>by
   refine⟨fun hr=>h.1 ((QeG hs hd hc).1 hr),fun i hi=>?_⟩
   obtain⟨h1,h2⟩:=Qk7 hd hs hc i hi
   refine wpOp_mono (fun a w hw=>Qk6 hd fuel _ a w (by simpa using hs) ?_ hw) (QwM (h.2 i h1))
   intro j hj hl m hm
   by_cases hji:j=i
   ·subst hji
    have:=h2 m hm
    by_cases hmj:m=j
    ·subst hmj; exact hl
    ·rw[getD_set_ne false (Ne.symm hmj)]; exact this
   ·rw [getD_set_ne false (Ne.symm hji)] at hl
    have:=hc j (by simpa using hj) hl m hm
    by_cases hmi:m=i
    ·subst hmi
     have hlt:m<L.size:=by
      rcases Uh m L.size with h | h
      ·exact h
      ·simp[h] at this
     simp[hlt]
    ·rw[getD_set_ne false (Ne.symm hmi)]; exact this
inductive SameL:List Oper->List Oper->Prop
 | nil:SameL [] []
 | cons (o:Oper) (l:List Nat) {r r':List Oper}:SameL r r'->SameL (aft o l::r) (o::r')
theorem Qb2:∀ (l:List Nat),SameL (pick (tcl ops D).toList l) (pick ops.toList l)
 | []=>.nil
 | i :: r=>by
   have h:(tcl ops D).toList[i]?=(ops[i]?).map fun o=>aft o (D.getD i []):=by
    have:=Qg6 ops D i
    simpa using this
   have h':ops.toList[i]?=ops[i]?:=by simp
   rw[pick,pick,h,h']
   cases ops[i]? with
   | none=>exact Qb2 r
   | some o=>exact .cons o _ (Qb2 r)
theorem QiC:QD (tcl ops D).toList S (aft o l)=QD ops.toList S o:=by
 have key:∀ j:Nat,(tcl ops D).toList[j]?.bind (·.dst)=ops.toList[j]?.bind (·.dst):=fun j=>by
  have:=Qsr (ops:=ops) (D:=D) j
  simpa using this
 unfold QD
 have e:(aft o l).guard=o.guard:=rfl
 rw[e]
 simp only[key]
theorem QjA:∀ {l' l:List Oper},SameL l' l->∀ {K K':St->Prop} {S:St},(∀ S,K S->K' S)->Qbi P ops.toList l K S->Qbi P (tcl ops D).toList l' K' S:=by
 intro l' l hs
 induction hs with
 | nil=>intro K K' S hk h; exact hk S h
 | cons o x _ ih =>
   intro K K' S hk h
   unfold Qbi at h |-
   rw[QiC]
   refine⟨h.1,?_⟩
   have h2:=h.2
   have e1:(aft o x).op=o.op:=rfl
   have e2:(aft o x).guard=o.guard:=rfl
   have e3:(aft o x).dst=o.dst:=rfl
   rw[e1,e2,e3]
   clear h
   generalize QD ops.toList S o=gd at h2 |-
   split at h2
   ·exact h2.elim
   ·exact ih hk h2
   ·split at h2
    ·rename_i g args hc
     exact h2.mono fun r h' q=>ih hk q
    ·split at h2
     ·rename_i d hp' hv
      exact ih hk h2
     ·exact h2.elim
theorem Qst:∀ {l' l:List Oper},SameL l' l->Qis ops.toList S S1 l->Qis (tcl ops D).toList S S1 l':=by
 intro l' l hs
 induction hs with
 | nil=>intro h; exact h
 | cons o x _ ih =>
   intro h
   refine⟨?_,ih h.2⟩
   rw[QiC]
   exact h.1
theorem Qss:∀ {l' l:List Oper},SameL l' l->QcY P S l->QcY P S l':=by
 intro l' l hs
 induction hs with
 | nil=>intro h; exact h
 | cons o x _ ih=>intro h; exact⟨h.1,ih h.2⟩
theorem Qsq:∀ {segs:List Seg} {S:St},vsp P ops.toList segs K S->vsp P (tcl ops D).toList segs K S
 | [],S,h=>h
 | s :: r,S,h=>by
   unfold vsp at h |-
   exact⟨Qss (Qb2 _) h.1,QjA (Qb2 _) (fun S1 ⟨a,b⟩=>⟨Qst (Qb2 _) a,QjA (Qb2 _) (fun S h=>Qsq h) b⟩) h.2⟩
end
def Qbh{id:Nat}(D:List (List Nat))(H0:List Nat)(segs:List Seg)(hm:P.follows .mixedOrders=true)(hd:dOk ops D=true)(hok:Qg9 (tcl ops D) H0 segs=true)(h:Qbi P ops.toList (pick ops.toList H0) (vsp P ops.toList segs (Q .normal)) S):VDraw P id ops Q S:=by
 have h':Qbi P (tcl ops D).toList (pick (tcl ops D).toList H0) (vsp P (tcl ops D).toList segs (Q .normal)) S:=QjA (Qb2 _) (fun S h=>Qsq h) h
 intro O β a w hs
 have hw:=Qfs (ops:=tcl ops D) H0 segs hok h' hs
 rw[QwN] at hw
 refine wp_region_any hm (Qk6 hd _ _ _ _ (by simp) (fun j _ hl=>?_) hw)
 by_cases hj:j<ops.size<;>simp[hj] at hl
end Go.V
namespace Go.V
def QdX:Enc (List UInt8):=⟨1,fun s=>[.str s],KY,fun _=>rfl⟩
def QvM(l:List (List UInt8)):cells QdX l=l.map fun s=>DV.pv (.str s):=by
 induction l with
 | nil=>rfl
 | cons a r ih=>rw[QL,ih]; rfl
def Qq0(l:List (List UInt8))(i:Nat)(h:i<l.length):(cells QdX l)[i]?=some (.pv (.str (l.getD i []))):=by
 rw[QvM,Jd,Jl,Ja h]; rfl
structure C where
 l:List UInt8
 at_:Nat
 ha:at_<=l.length
 hl:l.length<=1000000
def cc(c:C):List DV:=[.pv (.sl (fz QfT c.l)),.int .i64 c.at_]
theorem Qcp(c:C):DV.nums.go (fun _=>false) (cc c)=true:=rfl
def Qof(x n:Nat)(h:1<=n):∃ y:Nat,(x:Int).tmod n=y/\y<n:=⟨x % n,by rw[Int.ofNat_tmod],Nat.mod_lt _ h⟩
def Qfw{hp:Qa}{l:List UInt8}{n:Nat}(h:l.length=n):QAy hp 0 n (some (cells QfT l))=some (.pv (.str l),hp):=by
 subst h
 have e:((cells QfT l).drop 0).take l.length=cells QfT l:=by rw[Kg,Kl]; rw[QdZ]; exact Jm _
 simp only[QAy]
 rw[if_pos (by rw[QdZ]; omega),e,Qkk]
 simp
end Go.V
namespace Go.V
def Qde(hf:P.funcs[g]?=some fn)(hb:fn.body=some c)(hname:(fn.name == "runtime.NumGoroutine")=false)(hn:args.length<=fn.ntmps)(hc:VWp P c (Qfu P fn.results.toList h.length R) ⟨fn.ntmps,h.length,QgM 0 args,h⟩):VCalls P g args h R:=by
 refine Qfx hf hb hname hn (fun e S hq=>?_) hc
 unfold Qfu at hq
 split at hq
 ·split at hq
  ·rename_i d hd; exact⟨.inl rfl,d,hd,.inl fun _=>hq⟩
  ·exact hq.elim
 ·split at hq
  ·rename_i d hd; exact⟨.inr rfl,d,hd,.inl fun _=>hq⟩
  ·exact hq.elim
 ·exact hq.elim
def VWp.weak(h:VWp P c Q S')(hw:Qv6 S S'):VWp P c Q S:=fun O _ a w hs=>
 let ⟨_,h'⟩:=hs.weak hw
 h O _ a w h'
def Qev(f:Func):Code:=match f.body with | some c=>c | none=>.skip
end Go.V
namespace Go.V
open Go.Lib
def Qtq(h:RelL w β hp (d::ds) vs):RelD w β hp d (vs.getD 0 undef):=h.2 0 d rfl
def VCalls.open0 (h:∀ ad cap,(∀ a,ad = some a->0 < cap->a.spot = none)->VCalls P g (.pv (.lit (.slice ad 0 cap)) :: rest) hp R):VCalls P g (.pv (.sl []) :: rest) hp R:=by
 refine⟨fun w β vs hh ha=>?_⟩
 have h1:=Qtq ha
 have key:∃ ad cap,(∀ a,ad = some a->0 < cap->a.spot = none)/\RelD w β hp (.pv (.lit (.slice ad 0 cap))) (vs.getD 0 undef):=by
  generalize vs.getD 0 undef=v at h1
  cases h1 with
  | pv _ _ hp0=>cases hp0 with
    | sl _ a cap sz val h1 h2 h3 h4 h5 h6=>exact⟨a,cap,h4,.pv _ _ (.lit _ rfl)⟩
 obtain⟨ad,cap,hs,hr⟩:=key
 refine(h ad cap hs).run w β vs hh ⟨ha.1,fun i d hd=>?_⟩
 cases i with
 | zero=>simp at hd; subst hd; exact hr
 | succ i=>exact ha.2 (i+1) d (by simpa using hd)
mutual
def QiR (σ:Nat->Nat):∀ (d:DV),(d.ren σ).nums (fun _=>false) = true->d.nums (fun _=>false) = true
 | .pv _,_=>rfl
 | .ptr _ _,h=>h
 | .own _ _ _ _,h=>h
 | .ownc _ _ _ _ _,h=>h
 | .ip _,_=>rfl
 | .any,_=>rfl
 | .agg cs,h=>Qbn σ cs h
 | .tup cs,h=>Qbn σ cs h
 | .fn f a b,h=>by
   simp only[DV.ren,DV.nums,Jp] at h |-
   exact⟨Qbn σ a h.1,Qbn σ b h.2⟩
 | .opt c d,h=>QiR σ d h
def Qbn (σ:Nat->Nat):∀ (ds:List DV),DV.nums.go (fun _=>false) (DV.ren.go σ ds) = true->DV.nums.go (fun _=>false) ds = true
 | [],_=>rfl
 | d :: r,h=>by
   simp only[DV.ren.go,DV.nums.go,Jp] at h |-
   exact⟨QiR σ d h.1,Qbn σ r h.2⟩
end
def QcM(kp:Nat->Bool)(h:Qa):Qa:=h.mapIdx fun i B=>if kp i then B else ⟨B.ty,false,[]⟩
def Qdy(kp:Nat->Bool)(h:Qa):(QcM kp h).length=h.length:=by simp[QcM]
def Qvs(hk:(QcM kp h)[k]?=some B)(hl:B.live=true):kp k=true/\h[k]?=some B:=by
 unfold QcM at hk
 rw[KU] at hk
 obtain⟨x,h1,h2⟩:=Qy hk
 split at h2
 ·rename_i hkp
  subst h2
  exact⟨hkp,h1⟩
 ·subst h2
  cases hl
def VCalls.freshK {g:FuncId} {args:List DV} {h:Qa} (kp:Nat->Bool) {R:DV->Qa->Prop} {R':Nat->Nat->TypeId->List DV->Prop} (c:VCalls P g args h R) (hR:∀ r h',R r h'->(∀ i B,kp i = true->h[i]? = some B->h'[i]? = some B/\DV.nums.go (fun _=>false) B.cells = true)/\∃ sz n T cs,((r = .pv (.slc [])/\n = 0/\cs = [])\/∃ k,(r = .own k sz 0 n\/∃ cap,0 < cap/\r = .ownc k sz 0 n cap)/\(kp k = true->h.length<=k)/\h'[k]? = some ⟨T,true,cs⟩/\DV.nums.go (fun _=>false) cs = true)/\R' sz n T cs):
 VCalls P g args h fun r h'=>∃ sz n T cs,R' sz n T cs/\r=.own h.length sz 0 n/\h'=QcM kp h++[⟨T,true,cs⟩]:=by
 refine⟨fun w β vs hh ha=>(c.run w β vs hh ha).mono ?_⟩
 rintro e w' ⟨v,r,h',β',rfl,ev,hh',hr,hq⟩
 obtain⟨hkeep,sz,n,T,cs,hrk,hR'⟩:=hR r h' hq
 obtain ⟨fk,hnum,hlive,hnone,hval⟩:∃ fk:Option Nat,DV.nums.go (fun _=>false) cs = true/\(∀ b,fk = some b->∃ k,h'[k]? = some ⟨T,true,cs⟩/\β'.f k = some b/\(kp k = true->h.length<=k))/\(fk = none->cs = []) /\
  ∀ (β2:Map) (h2:Qa) (j:Nat),j<h2.length->β2.f j=fk->RelD w' β2 h2 (.own j sz 0 n) v:=by
  rcases hrk with⟨rfl,rfl,rfl⟩ | ⟨k,hrk,hkp,hk,hnum⟩
  ·refine ⟨none,rfl,by simp,fun _=>rfl,fun β2 h2 j hj hf=>?_⟩
   cases hr with
   | pv _ _ hp0=>cases hp0 with
     | slc _ a sz2 val h1 h2 h3 h4 h5=>exact .own0 _ _ a hj hf trivial
  ·refine ⟨β'.f k,hnum,fun b hb=>⟨k,hk,hb,hkp⟩,fun hn=>hh'.none k _ hk rfl hn,fun β2 h2 j hj hf=>?_⟩
   rcases hrk with rfl | ⟨cap,hcap,rfl⟩
   ·cases hr with
    | own _ _ _ _ cap b C T' m _ hm h1 h2 h3 h4=>exact .own _ _ _ _ cap b C T' m hj (hf.trans hm) h1 h2 h3 h4
    | own0 _ _ a _ hm h1=>exact .own0 _ _ a hj (hf.trans hm) h1
   ·cases hr with
    | ownc _ _ _ _ _ b o C T' m _ hm h1 h2 h3 h4 h5 =>
      rw[h5 hcap]
      exact .own _ _ _ _ cap b C T' m hj (hf.trans hm) h1 h2 h3 h4
 have at_:∀ {j:Nat} {D:Blk},(QcM kp h++[(⟨T,true,cs⟩:Blk)])[j]?=some D->D.live=true->(j<h.length/\kp j=true/\h[j]?=some D)\/(j=h.length/\D=⟨T,true,cs⟩):=fun {j D} hj hD=>by
  rw[List.getElem?_append,Qdy] at hj
  split at hj
  ·rename_i hlt
   obtain⟨g1,g2⟩:=Qvs hj hD
   exact .inl ⟨hlt,g1,g2⟩
  ·rename_i hge
   have hj0:j-h.length=0:=by
    rcases Nat.eq_zero_or_pos (j-h.length) with h0 | h0
    ·exact h0
    ·rw[Jt (by simp; omega)] at hj; cases hj
   rw[hj0] at hj
   simp at hj
   exact .inr ⟨by omega,hj.symm⟩
 have fnew:(ext β h.length fk).f h.length=fk:=by simp[ext]
 have fold:∀ {j},j<h.length->(ext β h.length fk).f j=β'.f j:=fun {j} hj=>by rw[Qbb hj,ev.beta j hj]
 -- each block of the new heap is one of the old
 have src:∀ {j:Nat} {D:Blk},(QcM kp h++[(⟨T,true,cs⟩:Blk)])[j]?=some D->D.live=true->DV.nums.go (fun _=>false) D.cells=true/\((ext β h.length fk).f j=none->D.cells=[])/\(∀ b,(ext β h.length fk).f j=some b->∃ k,h'[k]?=some D/\β'.f k=some b/\((j<h.length/\k=j)\/(j=h.length/\(kp k=true->h.length<=k)))):=fun {j D} hj hD=>by
  rcases at_ hj hD with⟨hlt,g1,g2⟩ | ⟨rfl,rfl⟩
  ·obtain ⟨g3,g4⟩:=hkeep j D g1 g2
   rw[fold hlt]
   exact⟨g4,fun hn=>hh'.none j D g3 hD hn,fun b hb=>⟨j,g3,hb,.inl ⟨hlt,rfl⟩⟩⟩
  ·rw [fnew]
   exact⟨hnum,hnone,fun b hb=>by obtain⟨k,k1,k2,k3⟩:=hlive b hb; exact⟨k,k1,k2,.inr ⟨rfl,k3⟩⟩⟩
 have lv:∀ b,live (ext β h.length fk) (QcM kp h++[(⟨T,true,cs⟩:Blk)]) b->live β' h' b:=by
  rintro b ⟨j,D,h1,h2,h3⟩
  obtain⟨_,_,hs⟩:=src h1 h2
  obtain⟨k,k1,k2,_⟩:=hs b h3
  exact⟨k,D,k1,h2,k2⟩
 have im:∀ b,img (ext β h.length fk) (QcM kp h++[(⟨T,true,cs⟩:Blk)]) b->img β' h' b:=by
  rintro b (hb | hb)
  ·exact .inl (by rw[ev.X]; exact hb)
  ·exact .inr (lv b hb)
 have rel:∀ {ds:List DV},DV.nums.go (fun _=>false) ds=true->∀ (i:Nat) (d:DV),ds[i]?=some d->∀ u,RelD w' β' h' d u->RelD w' (ext β h.length fk) (QcM kp h++[(⟨T,true,cs⟩:Blk)]) d u:=fun {ds} hnum i d hd u hu=>by
  have hn:d.nums (fun _=>false)=true:=DV.nums_go hnum i d hd
  have:=RelD.ren (σ:=fun _=>0) (p:=fun _=>false) (β':=ext β h.length fk) (hp':=QcM kp h++[(⟨T,true,cs⟩:Blk)]) (fun _ h=>by cases h) im hu hn
  rwa [QeR _ d hn] at this
 have evo:Evo w β h w' (ext β h.length fk) (QcM kp h++[(⟨T,true,cs⟩:Blk)]):=
  ⟨ev.os,ev.tape,ev.output,ev.size,by simp[Qdy],fun j hj=>Qbb hj,ev.same,ev.shape,fun b hb hl=>ev.im b hb (lv b hl),rfl⟩
 have heap:HeapRel w' (ext β h.length fk) (QcM kp h++[(⟨T,true,cs⟩:Blk)]):=by
  refine⟨fun j D b h1 h2 h3=>?_,fun j D h1 h2 h3=>?_,fun i j D D' b h1 h2 h3 h4 f1 f2=>?_,fun j D b h1 h2 h3=>?_,fun b hb=>Jj (hh.bound b hb) ev.size⟩
  ·obtain ⟨s1,_,s2⟩:=src h1 h2
   obtain⟨k,hk,hb,_⟩:=s2 b h3
   obtain⟨C,c1,c2,c3⟩:=hh'.blk k D b hk h2 hb
   exact⟨C,c1,c2,fun i d hd=>⟨(c3 i d hd).1,rel s1 i d hd _ (c3 i d hd).2⟩⟩
  ·obtain ⟨_,s1,_⟩:=src h1 h2
   exact s1 h3
  ·obtain ⟨_,_,s1⟩:=src h1 h3
   obtain⟨_,_,s2⟩:=src h2 h4
   obtain⟨k,k1,k2,k3⟩:=s1 b f1
   obtain⟨l,l1,l2,l3⟩:=s2 b f2
   have e:=hh'.inj k l D D' b k1 l1 h3 h4 k2 l2
   subst e
   rcases at_ h1 h3 with⟨p1,p2,_⟩ | ⟨p1,_⟩<;>rcases at_ h2 h4 with⟨q1,q2,_⟩ | ⟨q1,_⟩
   ·rcases k3 with⟨_,k3⟩ | ⟨k3,_⟩<;>rcases l3 with⟨_,l3⟩ | ⟨l3,_⟩<;>omega
   ·rcases k3 with ⟨_,k3⟩ | ⟨k3,_⟩
    ·subst k3
     rcases l3 with⟨l3,_⟩ | ⟨_,l3⟩
     ·omega
     ·have:=l3 p2; omega
    ·omega
   ·rcases l3 with ⟨_,l3⟩ | ⟨l3,_⟩
    ·subst l3
     rcases k3 with⟨k3,_⟩ | ⟨_,k3⟩
     ·omega
     ·have:=k3 q2; omega
    ·omega
   ·omega
  ·obtain ⟨_,_,s2⟩:=src h1 h2
   obtain⟨k,hk,hb,_⟩:=s2 b h3
   have:=hh'.avoid k D b hk h2 hb
   rwa [ev.X] at this
 exact⟨v,.own h.length sz 0 n,_,_,rfl,evo,heap,hval _ _ _ (by simp[Qdy]) fnew,sz,n,T,cs,hR',rfl,rfl⟩
def QBX(hp:Qa)(k j:Nat):(kill hp k)[j]?=if j=k then (hp[j]?).map (fun B=>⟨B.ty,false,[]⟩) else hp[j]?:=by
 unfold kill
 split
 ·rename_i B hk
  have hlt:=(Jb.1 hk).1
  by_cases e:j=k
  ·subst e; rw[if_pos rfl,Ka hlt,hk]; rfl
  ·rw[if_neg e,J1 (by omega)]
 ·rename_i hk
  split
  ·rename_i e; subst e; rw[hk]; rfl
  ·rfl
def QoW (hp:Qa) (l:List Nat) (j:Nat):(Qhx hp l)[j]? = if j ∈ l then (hp[j]?).map (fun B=>⟨B.ty,false,[]⟩) else hp[j]?:=by
 induction l generalizing hp with
 | nil=>simp[Qhx]
 | cons k r ih =>
   rw[Qhx,ih,QBX]
   by_cases e:j=k
   ·subst e
    simp only[if_true,KK,true_or]
    split
    ·cases hp[j]?<;>rfl
    ·rfl
   ·simp only[KK,e,false_or,if_false]
def Qse {g:FuncId} {args args0:List DV} {hp h0:Qa} {K:DV->Qa->Prop} {R':Nat->Nat->TypeId->List DV->Prop} (sel:List Nat) (kp:Nat->Bool) (hnd:sel.Nodup) (hl:QlY hp sel = some h0) (hok:QiT hp sel = true) (c:VCalls P g args0 h0 fun r h'=>∃ sz n T cs,R' sz n T cs/\r = .own h0.length sz 0 n/\h' = QcM kp h0 ++ [⟨T,true,cs⟩]) (ha0:args0 = args.map (DV.ren fun j=>sel.idxOf j)) (ha:DV.nums.go sel.contains args = true) (hkeep:∀ i B,kp i = true->h0[i]? = some B->DV.nums.go (fun _=>false) B.cells = true) (hR:∀ sz n T cs,R' sz n T cs->DV.nums.go (fun _=>false) cs = true) (h:∀ sz n T cs,R' sz n T cs->K (.own hp.length sz 0 n) (Qhx hp (sel.filter fun k=>!kp (sel.idxOf k)) ++ [⟨T,true,cs⟩])):VCalls P g args hp K:=by
 refine(VCalls.frame sel hnd hl hok c ha0 ha).mono ?_
 rintro r h2 ⟨r0,h',⟨sz,n,T,cs,hR1,rfl,rfl⟩,hlen,rfl,rfl⟩
 obtain⟨l1,l2⟩:=Qx hl
 have hlen0:h0.length=sel.length:=by rw[l1,Jf]
 have e1:DV.ren (back sel hp.length) (.own h0.length sz 0 n)=.own hp.length sz 0 n:=by
  simp[DV.ren,back,hlen0]
 have hcs:=hR sz n T cs hR1
 have rb:∀ {σ:Nat->Nat} {B:Blk},DV.nums.go (fun _=>false) B.cells=true->Qc4 σ B=B:=fun {σ B} hB=>by
  obtain⟨t,lv,c⟩:=B
  simp only[Qc4]
  rw[<- DV.ren_go,QaL _ _ hB]
 have e2 : QX hp sel (QcM kp h0 ++ [(⟨T,true,cs⟩:Blk)]) = Qhx hp (sel.filter fun k=>!kp (sel.idxOf k)) ++ [⟨T,true,cs⟩]:=by
  have hd:(QcM kp h0++[(⟨T,true,cs⟩:Blk)]).drop sel.length=[⟨T,true,cs⟩]:=by
   rw[Ky (by rw[Qdy,hlen0])]
  unfold QX
  rw[hd,Jr,KM,rb hcs]
  congr 1
  apply Kd
  intro j
  rw[QoW,Jd]
  by_cases hj:j<hp.length
  ·rw [Kz hj,Jv]
   have hget:hp[j]?=some hp[j]:=Ja hj
   by_cases hm:j∈sel
   ·have hlt:=Kc hm
    have hc:sel.contains j=true:=by simpa using hm
    rw[if_pos hc]
    have hi:sel[sel.idxOf j]?=some j:=by rw[Ja hlt]; simp
    have hh0:h0[sel.idxOf j]?=some (Qc4 (fun j=>sel.idxOf j) hp[j]):=by
     have hlt0:sel.idxOf j<h0.length:=by rw[hlen0]; exact hlt
     have h3:=l2 (sel.idxOf j) h0[sel.idxOf j] (Ja hlt0)
     rw[Jd,hi,Jv,hget] at h3
     simp at h3
     rw[Ja hlt0,<- h3]
    have hdk:(QcM kp h0++[(⟨T,true,cs⟩:Blk)]).getD (sel.idxOf j) default=if kp (sel.idxOf j) then Qc4 (fun j=>sel.idxOf j) hp[j] else ⟨hp[j].ty,false,[]⟩:=by
     rw[Jl,Jh (by rw[Qdy,hlen0]; exact hlt),QcM,KU,hh0]
     cases kp (sel.idxOf j)<;>rfl
    rw[hdk]
    cases hkp:kp (sel.idxOf j) with
    | true =>
      have hnf:¬ j∈sel.filter (fun k=>!kp (sel.idxOf k)):=by simp[hkp]
      rw[if_neg hnf,hget]
      simp only[if_true]
      have hB:=hkeep _ _ hkp hh0
      congr 1
      have hB':DV.nums.go (fun _=>false) hp[j].cells=true:=Qbn (fun j=>sel.idxOf j) _ (by rw[DV.ren_go]; exact hB)
      rw[rb hB,rb hB']
    | false =>
      have hnf:j∈sel.filter (fun k=>!kp (sel.idxOf k)):=by simp[hkp,hm]
      rw[if_pos hnf,hget]
      rfl
   ·have hc:sel.contains j = false:=by simpa using hm
    have hnf:¬ j∈sel.filter (fun k=>!kp (sel.idxOf k)):=by simp[hm]
    rw[if_neg (by rw[hc]; simp),if_neg hnf,Jl,hget]; rfl
  ·rw [Jt (l:=JA hp.length) (by simpa using Kr hj),Jt (l:=hp) (Kr hj)]
   simp
 rw[e1,e2]
 exact h sz n T cs hR1
abbrev QhY(kp:Nat->Bool)(h:Qa)(sz n:Nat)(T:TypeId)(cs:List DV):DV->Qa->Prop:=fun r h'=>r=.own h.length sz 0 n/\h'=QcM kp h++[⟨T,true,cs⟩]
def QFl(kp:Nat->Bool)(h:Qa)(sz n:Nat)(T:TypeId)(cs:List DV):DV->Qa->Prop:=fun r h'=>
 (∀ i B,kp i=true->h[i]?=some B->h'[i]?=some B/\DV.nums.go (fun _=>false) B.cells=true) /\
 ((r=.pv (.slc [])/\n=0/\cs=[])\/∃ k,(r=.own k sz 0 n\/∃ cap,0<cap/\r=.ownc k sz 0 n cap)/\(kp k=true->h.length<=k)/\h'[k]?=some ⟨T,true,cs⟩/\DV.nums.go (fun _=>false) cs=true)
def VCalls.newSl(c:VCalls P g args h (QFl kp h sz n T cs)):VCalls P g args h (QhY kp h sz n T cs):=by
 refine(VCalls.freshK kp (R':=fun sz' n' T' cs'=>sz'=sz/\n'=n/\T'=T/\cs'=cs) c fun r h' hr=>⟨hr.1,sz,n,T,cs,hr.2,rfl,rfl,rfl,rfl⟩).mono ?_
 rintro r h' ⟨_,_,_,_,⟨rfl,rfl,rfl,rfl⟩,rfl,rfl⟩
 exact⟨rfl,rfl⟩
def QDG(sel:List Nat)(c:VCalls P g args0 h0 (QhY kp h0 sz n T cs))(hnd:sel.Nodup)(hl:QlY hp sel=some h0)(hok:QiT hp sel=true)(ha0:args0=args.map (DV.ren fun j=>sel.idxOf j))(ha:DV.nums.go sel.contains args=true)(hkeep:∀ i B,kp i=true->h0[i]?=some B->DV.nums.go (fun _=>false) B.cells=true)(hc:DV.nums.go (fun _=>false) cs=true)(h:K (.own hp.length sz 0 n) (Qhx hp (sel.filter fun k=>!kp (sel.idxOf k))++[⟨T,true,cs⟩])):VCalls P g args hp K:=by
 refine Qse (R':=fun sz' n' T' cs'=>sz'=sz/\n'=n/\T'=T/\cs'=cs) sel kp hnd hl hok (c.mono fun r h' e=>⟨sz,n,T,cs,⟨rfl,rfl,rfl,rfl⟩,e.1,e.2⟩) ha0 ha hkeep ?_ ?_
 ·rintro _ _ _ _ ⟨rfl,rfl,rfl,rfl⟩; exact hc
 ·rintro _ _ _ _ ⟨rfl,rfl,rfl,rfl⟩; exact h
def Qsd(c:VCalls P g args [] (QhY kp [] sz n T cs))(ha:DV.nums.go (fun _=>false) args=true)(hc:DV.nums.go (fun _=>false) cs=true)(h:K (.own hp.length sz 0 n) (hp++[⟨T,true,cs⟩])):VCalls P g args hp K:=by
 refine QDG [] c List.nodup_nil rfl rfl ?_ ?_ (by simp) hc ?_
 ·rw[<- DV.ren_go,QaL _ _ ha]
 ·rw[<- ha]; congr 1
 ·exact h
def Qhl(hp:Qa):List Nat->Prop
 | []=>True
 | k::r=>(k<hp.length/\DV.nums.go (fun _=>false) (hp.getD k default).cells=true)/\Qhl hp r
def QdT (h:Qhl hp sel):∀ k ∈ sel,k < hp.length/\DV.nums.go (fun _=>false) (hp.getD k default).cells = true:=by
 induction sel with
 | nil=>simp
 | cons a r ih =>
   intro k hk
   rcases KK.1 hk with rfl | hk
   ·exact h.1
   ·exact ih h.2 k hk
def QaT(hB:DV.nums.go (fun _=>false) B.cells=true):Qc4 σ B=B:=by
 obtain⟨t,lv,c⟩:=B
 simp only[Qc4]
 rw[<- DV.ren_go,QaL _ _ hB]
def Qn5 {α β:Type} (l:List α) (f:α->Option β) (g:α->β) (h:∀ a ∈ l,f a = some (g a)):Qi (l.map f) = some (l.map g):=by
 induction l with
 | nil=>rfl
 | cons a r ih =>
   rw[Jr,h a (by simp),Jr]
   simp only[Qi]
   rw[ih fun b hb=>h b (by simp[hb])]
   rfl
def Qdn(h:Qhl hp sel):QlY hp sel=some (sel.map fun k=>hp.getD k default):=by
 refine Qn5 sel _ _ fun k hk=>?_
 obtain⟨h1,h2⟩:=QdT h k hk
 rw[Jl,Ja h1] at h2 |-
 simp only[Jv,Ks] at h2 |-
 rw[QaT h2]
def Qdo(h:Qhl hp sel):QiT hp sel=true:=by
 unfold QiT
 rw[JZ]
 intro k hk
 obtain⟨h1,h2⟩:=QdT h k hk
 rw[Jl,Ja h1] at h2
 rw[Ja h1]
 simp only[Ks] at h2 |-
 rw[QT _ _ h2]; simp
end Go.V
namespace Go.V
def Qqv (hp:Qa):DV->Option DV
 | .ptr k off=>match Qc hp k with
   | some cs=>(Qi ((cs.drop off).map (QhB 0 hp 4))).map .ip
   | none=>none
 | .ip cs=>some (.ip cs)
 | d=>Qc3 0 hp d
def QmM (hp:Qa):DV->Option DV
 | .fn f a b=>match Qi (a.map (Qqv hp)),Qi (b.map (Qqv hp)) with
   | some a',some b'=>some (.fn f a' b')
   | _,_=>none
 | .agg cs=>(Qi (cs.map (Qqv hp))).map .agg
 | d=>Qqv hp d
def QiX (hh:HeapRel w β hp) (hl:Leaves w β hp 0 (img βc [])) (hd:RelD w β hp d v) (h:Qqv hp d = some d'):RelD w βc [] d' v:=by
 unfold Qqv at h
 split at h
 ·rename_i k off
  split at h
  ·rename_i cs hb
   obtain⟨ps,h1,h2⟩:=Qy h
   subst h2
   obtain⟨g1,g2⟩:=Qx h1
   cases hd with
   | ptr _ _ b hk hm =>
     obtain⟨B,C,q1,q2,q3,q4,q5,q6⟩:=Qbd hh hb hm
     have each:∀ (j:Nat) (d:PV),ps[j]?=some d->off+j<C.v.size/\RelP w (img βc []) d (C.v.getD (off+j) undef):=fun j d hj=>by
      have h3:=g2 j d hj
      rw[Jd,K3] at h3
      obtain⟨x,x1,x2⟩:=Qy h3
      have hlt:=(Jb.1 x1).1
      exact⟨by omega,QfQ hh hl 4 (q6 _ _ x1).2 x2⟩
     refine .ip ps ⟨b,off,none⟩ (fun j=>C.v.getD (off+j) undef) rfl (fun j d hj=>⟨?_,?_,?_⟩) (fun j d hj=>(each j d hj).2)
     ·exact(Je.1 q4).1
     ·exact hl.off k B b (JE _) q1 q2 hm
     ·exact Qah q4 (each j d hj).1
  ·cases h
 ·rename_i cs
  simp at h
  subst h
  cases hd with
  | ip _ ad val h1 h2 h3 =>
    exact .ip cs ad val h1 (fun j d hd=>⟨(h2 j d hd).1,fun x=>(h2 j d hd).2.1 (hl.sub _ x),(h2 j d hd).2.2⟩) (fun j d hd=>(h3 j d hd).mono (Jm _) (fun _ _ _=>rfl) (fun b _=>hl.sub b))
 ·exact QcH (β':=βc) (hp':=[]) hh hl (fun k hk=>absurd hk (Kk _)) (JE _) hd h
def Qeq{hp:Qa}(hh:HeapRel w β hp)(hl:Leaves w β hp 0 (img βc [])){ds ds':List DV}{n:Nat}{f:Nat->Value}(hn:ds.length=n)(hd:∀ i d,ds[i]?=some d->RelD w β hp d (f i))(h:Qi (ds.map (Qqv hp))=some ds'):ds'.length=n/\∀ i d,ds'[i]?=some d->RelD w βc [] d (f i):=by
 obtain⟨h1,h2⟩:=Qx h
 refine⟨by rw[h1,Jf,hn],fun i d hi=>?_⟩
 have h3:=h2 i d hi
 rw[Jd] at h3
 obtain⟨x,x1,x2⟩:=Qy h3
 exact QiX hh hl (hd i x x1) x2
def QfR (hh:HeapRel w β hp) (hl:Leaves w β hp 0 (img βc [])) (hd:RelD w β hp d v) (h:QmM hp d = some d'):RelD w βc [] d' v:=by
 unfold QmM at h
 split at h
 ·rename_i f a b
  split at h
  ·rename_i a' b' ha hb
   simp at h
   subst h
   cases hd with
   | fn _ _ _ vs us h1 h2 h3 h4 =>
     obtain⟨p1,p2⟩:=Qeq hh hl h1 h3 ha
     obtain⟨q1,q2⟩:=Qeq hh hl h2 h4 hb
     exact .fn f a' b' vs us p1 q1 p2 q2
  ·cases h
 ·rename_i cs
  obtain⟨ds,h1,h2⟩:=Qy h
  subst h2
  cases hd with
  | agg _ vs g1 g2 =>
    obtain⟨p1,p2⟩:=Qeq hh hl g1 g2 h1
    exact .agg _ _ p1 p2
 ·exact QiX hh hl hd h
def VCalls.lendA{g:FuncId}{args args0:List DV}{hp:Qa}{R:DV->Prop}(ha:Qi (args.map (QmM hp))=some args0)(c:VCalls P g args0 [] fun r h'=>h'=[]/\r.flat=true/\R r):
 VCalls P g args hp fun r h'=>h'=hp/\R r:=by
 refine⟨fun w β vs hh hr=>?_⟩
 let βc:Map:=⟨fun _=>none,β.X⟩
 have himc:∀ b,img βc [] b->β.X b:=fun b hb=>by
  rcases hb with hb | ⟨i,D,h1,_⟩
  ·exact hb
  ·simp at h1
 have hlv:Leaves w β hp 0 (img βc []):=⟨fun b hb=>.inl (himc b hb),fun k B b _ h1 h2 h3 hb=>hh.avoid k B b h1 h2 h3 (himc b hb)⟩
 have hhc:HeapRel w βc []:=⟨by simp,by simp,by simp,by simp,hh.bound⟩
 obtain⟨a1,a2⟩:=Qx ha
 have hargs:RelL w βc [] args0 vs:=by
  refine⟨by rw[a1]; simpa using hr.1,fun i d hd=>?_⟩
  have h3:=a2 i d hd
  rw[Jd] at h3
  obtain⟨x,x1,x2⟩:=Qy h3
  exact QfR hh hlv (hr.2 i x x1) x2
 refine(c.run w βc vs hhc hargs).mono ?_
 rintro e w' ⟨v,r,h',β',rfl,ev,hh',hrel,rfl,hf,hR⟩
 have heap_same:∀ b,b<w.heap.size->w'.heap[b]?=w.heap[b]?:=fun b hb=>ev.same b hb (by rintro⟨k,B,h1,_⟩; simp at h1)
 have e:Evo w β hp w' β hp:=⟨ev.os,ev.tape,ev.output,ev.size,Jm _,fun _ _=>rfl,fun b hb _=>heap_same b hb,fun b C T m h=>⟨C,m,by rw[heap_same b (Je.1 h).1]; exact h,rfl⟩,fun _ _ h=>h,rfl⟩
 refine⟨v,r,hp,β,rfl,e,?_,hrel.flat hf,rfl,hR⟩
 refine⟨fun k B b h1 h2 h3=>?_,hh.none,hh.inj,hh.avoid,fun b hb=>Jj (hh.bound b hb) ev.size⟩
 obtain⟨C,g1,g2,g3⟩:=hh.blk k B b h1 h2 h3
 exact⟨C,by rw[heap_same b (Je.1 g1).1]; exact g1,g2,fun i d hd=>⟨(g3 i d hd).1,(g3 i d hd).2.mono e⟩⟩
def QwE(c:VCalls P g args0 [] (Ret d))(ha:Qi (args.map (QmM hp))=some args0)(hf:d.flat=true)(h:K d hp):VCalls P g args hp K:=
 (VCalls.lendA (R:=fun r=>r=d) ha (c.mono fun r h' e=>⟨e.1,e.2.2▸hf,e.2.2⟩)).mono fun r h' e=>by obtain⟨rfl,rfl⟩:=e; exact h
def Qlb(e:Enc α)(l m:List α)(i:Nat):splice (cells e l) (i*e.sz) (cells e m)=cells e (l.take i++m++l.drop (i+m.length)):=by
 unfold splice
 rw[QqW,QS,<- Km,QfV,QF,QF]
def QqY(e:Enc α)(h:l.length=len):QhC n hp 0 e.sz len (some (cells e (l++m)))=some (.sl (fz e l)):=by
 subst h
 have h1:=QdY e n hp 3 l
 have h2:rows e.sz l.length (cells e (l++m))=rows e.sz l.length (cells e l):=by
  rw[QF]; exact Qln _ _ _ _ (by rw[QS]; exact Jm _)
 have h3:0+l.length*e.sz<=(cells e (l++m)).length/\0<e.sz:=by
  rw[QS,Ji,Km]; exact⟨by omega,e.hsz⟩
 have h0:=Q4 e (n:=n) (hp:=hp) (l:=l) rfl
 unfold QhC at h0 |-
 simp only[Kg] at h0 |-
 rw[if_pos ⟨by rw[QS]; omega,e.hsz⟩] at h0
 rw[if_pos h3,h2]
 exact h0
def QFP(f:Fn)(a b:Option (List DV)):Option DV:=match a,b with | some a',some b'=>some (.fn f a' b') | _,_=>none
def QG6(x:Option (List DV))(hp:Qa)(off:Nat):Option DV:=match x with | some cs=>(Qi ((cs.drop off).map (QhB 0 hp 4))).map .ip | none=>none
theorem QyF:QmM hp (.agg cs)=(Qi (cs.map (Qqv hp))).map .agg:=rfl
theorem Qmf:QmM hp (.own k sz off len)=Qc3 0 hp (.own k sz off len):=rfl
theorem QuY:Qqv hp (.own k sz off len)=Qc3 0 hp (.own k sz off len):=rfl
theorem QCu:QmM hp (.pv p)=some (.pv p):=rfl
theorem QCt:Qqv hp (.pv p)=some (.pv p):=rfl
theorem QCv:QmM hp (.fn f a b)=QFP f (Qi (a.map (Qqv hp))) (Qi (b.map (Qqv hp))):=rfl
theorem QuW:QFP f (some a) (some b)=some (.fn f a b):=rfl
theorem QuX:Qqv hp (.ptr k off)=QG6 (Qc hp k) hp off:=rfl
theorem QuV:QG6 (some cs) hp off=(Qi ((cs.drop off).map (QhB 0 hp 4))).map .ip:=rfl
end Go.V
namespace Go.V
def QpQ (h:Sim O β S a w) (t:Nat) (T:TypeId) (sz:Nat) (ht:look S.tm t = .pv (.slc [])):
 ∃ β',Sim O β' ⟨S.nt,S.base,(t,.own S.hp.length sz 0 0)::S.tm,S.hp++[⟨T,true,[]⟩]⟩ a w:=by
 have e:Evo w β S.hp w (ext β S.hp.length none) (S.hp++[(⟨T,true,[]⟩:Blk)]):=by
  refine⟨rfl,rfl,rfl,Jm _,by simp,fun j hj=>Qbb hj,fun _ _ _=>rfl,fun _ C _ m h=>⟨C,m,h,rfl⟩,fun b _ hb=>?_,rfl⟩
  obtain⟨j,D,g1,g2,g3⟩:=hb
  rcases KC j S.hp.length with hlt | heq | hgt
  ·rw[Jh hlt] at g1; rw[Qbb hlt] at g3; exact⟨j,D,g1,g2,g3⟩
  ·subst heq; simp[ext] at g3
  ·rw[Jo (by omega),Jt (by simp; omega)] at g1; simp at g1
 refine⟨_,h.defers,h.size,fun u=>?_,QeU h.heap rfl e (by simp) (fun _=>rfl) (fun _ _=>rfl),h.evo.trans e,h.base⟩
 simp only[look]
 split
 ·rename_i hu
  have:=h.tm t
  rw[ht] at this
  rw[<- hu]
  generalize a.tmps.getD t undef=v at this
  cases this with
  | pv _ _ hp0=>cases hp0 with
    | slc _ ad sz2 val h1 h2 h3 h4 h5=>exact .own0 _ _ ad (by simp) (by simp[ext]) trivial
 ·exact(h.tm u).mono e
def VWp.nilOwn(t:Nat)(T:TypeId)(sz:Nat)(ht:look S.tm t=.pv (.slc []))(h:VWp P c Q ⟨S.nt,S.base,(t,.own S.hp.length sz 0 0)::S.tm,S.hp++[⟨T,true,[]⟩]⟩):VWp P c Q S:=fun O β a w hs=>
 let ⟨_,h'⟩:=QpQ hs t T sz ht
 h O _ a w h'
def VLoop.nilOwn(t:Nat)(T:TypeId)(sz:Nat)(ht:look S.tm t=.pv (.slc []))(h:VLoop P c Q ⟨S.nt,S.base,(t,.own S.hp.length sz 0 0)::S.tm,S.hp++[⟨T,true,[]⟩]⟩):VLoop P c Q S:=VWp.nilOwn t T sz ht h
end Go.V
namespace Go.V
open Go
def VCalls.wkA(c:VCalls P g (DV.wk.go args) hp R):VCalls P g args hp R:=
 ⟨fun w β vs hh ha=>c.run w β vs hh ⟨by rw [Q5,Jf]; exact ha.1,fun i d hd=>by
  rw[Q5,Jd] at hd
  obtain⟨x,h1,h2⟩:=Qy hd
  subst h2
  exact(ha.2 i x h1).wk⟩⟩
end Go.V
namespace Go.V
open Go
structure Cut(h h':Qa):Prop where
 len:h'.length=h.length
 at_:∀ (k:Nat) (B:Blk),h[k]?=some B->∃ B',h'[k]?=some B'/\B'.ty=B.ty/\B'.live=B.live/\∃ t,B.cells=B'.cells++t
def Cut.back(c:Cut h h'){k:Nat}(hk:h'[k]?=some B'):∃ B,h[k]?=some B/\B'.ty=B.ty/\B'.live=B.live/\∃ t,B.cells=B'.cells++t:=by
 have hlt:k<h.length:=by rw[<- c.len]; exact(Jb.1 hk).1
 obtain⟨B2,g1,g2⟩:=c.at_ k h[k] (Ja hlt)
 rw[hk] at g1
 cases g1
 exact⟨h[k],Ja hlt,g2⟩
def Cut.live(c:Cut h h'):live β h' b ↔ live β h b:=by
 constructor
 ·rintro ⟨k,B,h1,h2,h3⟩
  obtain⟨B2,g1,_,g3,_⟩:=c.back h1
  exact⟨k,B2,g1,g3▸h2,h3⟩
 ·rintro ⟨k,B,h1,h2,h3⟩
  obtain⟨B2,g1,_,g3,_⟩:=c.at_ k B h1
  exact⟨k,B2,g1,g3.trans h2,h3⟩
def Cut.evo(c:Cut h h')(w:World)(β:Map):Evo w β h w β h':=
 ⟨rfl,rfl,rfl,Jm _,by rw[c.len]; exact Jm _,fun _ _=>rfl,fun _ _ _=>rfl,fun _ C _ m e=>⟨C,m,e,rfl⟩,fun _ _ l=>c.live.1 l,rfl⟩
def Cut.heap(c:Cut h h')(hh:HeapRel w β h):HeapRel w β h':=by
 refine⟨fun k B b h1 h2 h3=>?_,fun k B h1 h2 h3=>?_,fun j k B B' b h1 h2 h3 h4 h5 h6=>?_,fun k B b h1 h2 h3=>?_,hh.bound⟩
 ·obtain ⟨B2,g1,g2,g3,t,g4⟩:=c.back h1
  obtain⟨C,e1,e2,e3⟩:=hh.blk k B2 b g1 (g3▸h2) h3
  refine⟨C,g2▸e1,by rw[g4,Ji] at e2; omega,fun i d hd=>?_⟩
  have:B2.cells[i]?=some d:=by rw[g4,Jh (Jb.1 hd).1]; exact hd
  exact⟨(e3 i d this).1,(e3 i d this).2.mono (c.evo w β)⟩
 ·obtain ⟨B2,g1,g2,g3,t,g4⟩:=c.back h1
  have:=hh.none k B2 g1 (g3▸h2) h3
  rw[g4] at this
  exact(List.append_eq_nil_iff.1 this).1
 ·obtain ⟨B2,g1,_,g3,_⟩:=c.back h1
  obtain⟨B3,i1,_,i3,_⟩:=c.back h2
  exact hh.inj j k B2 B3 b g1 i1 (g3▸h3) (i3▸h4) h5 h6
 ·obtain ⟨B2,g1,_,g3,_⟩:=c.back h1
  exact hh.avoid k B2 b g1 (g3▸h2) h3
def VCalls.cut(c:VCalls P g args h R)(hr:∀ r h',R r h'->∃ h'',Cut h' h''/\R' r h''):VCalls P g args h R':=
 ⟨fun w β vs hh ha=>(c.run w β vs hh ha).mono fun _ w' ⟨v,r,h',β',e1,ev,hh',hd,hR⟩=>by
  obtain⟨h'',hc,hR'⟩:=hr r h' hR
  exact⟨v,r,h'',β',e1,ev.trans (hc.evo w' β'),hc.heap hh',hd.mono (hc.evo w' β'),hR'⟩⟩
def Cut.refl(h:Qa):Cut h h:=⟨rfl,fun k B hk=>⟨B,hk,rfl,rfl,[],by simp⟩⟩
def Cut.last(h:Qa)(T:TypeId)(b:Bool)(cs t:List DV):Cut (h++[⟨T,b,cs++t⟩]) (h++[⟨T,b,cs⟩]):=by
 refine⟨by simp,fun k B hk=>?_⟩
 rcases KC k h.length with hlt | heq | hgt
 ·rw [Jh hlt] at hk |-
  exact⟨B,hk,rfl,rfl,[],by simp⟩
 ·subst heq
  simp only[List.getElem?_concat_length,K1.injEq] at hk |-
  subst hk
  exact⟨_,rfl,rfl,rfl,t,rfl⟩
 ·rw[Jt (by simp; omega)] at hk; cases hk
def VCalls.newSl_cut(c:VCalls P g args h (QhY kp h sz n T (cs++t))):VCalls P g args h (QhY kp h sz n T cs):=
 c.cut fun r h' e=>by
  obtain⟨rfl,rfl⟩:=e
  exact⟨_,Cut.last _ T true cs t,rfl,rfl⟩
end Go.V
namespace Go.V
open Go
structure Gm(keep:List Nat)(S S':St):Prop where
 nt:S'.nt=S.nt
 base:S'.base=S.base
 low:∀ k,k<S.base->∃ B,S'.hp[k]?=some B/\B.live=false
 nodup:keep.Nodup
 len:S'.hp.length=S.base+keep.length
 hp:∀ (i k:Nat),keep[i]?=some k->∃ B B',S.hp[k]?=some B/\S'.hp[S.base+i]?=some B'/\B'.ty=B.ty/\B'.live=B.live/\B'.cells=B.cells.map (DV.ren fun k=>S.base+keep.idxOf k)/\(B.live=true->DV.nums.go keep.contains B.cells=true)
 tm:∀ t,V.look S'.tm t=.any\/(V.look S'.tm t=(V.look S.tm t).ren (fun k=>S.base+keep.idxOf k)/\(V.look S.tm t).nums keep.contains=true)
def Sim.gm (h:Sim O β S a w) (g:Gm keep S S'):∃ β',Sim O β' S' a w:=by
 let β':Map:=⟨fun i=>if i<S.base then β.f i else (keep[i-S.base]?).bind β.f,β.X⟩
 have hO:O.hp.length=S.base:=h.base
 have back:∀ {i:Nat} {B':Blk},S'.hp[i]?=some B'->B'.live=true->∃ k B,S.base<=i/\keep[i-S.base]?=some k/\S.hp[k]?=some B/\B'.ty=B.ty/\B'.live=B.live/\B'.cells=B.cells.map (DV.ren fun k=>S.base+keep.idxOf k)/\(B.live=true->DV.nums.go keep.contains B.cells=true)/\β'.f i=β.f k:=by
  intro i B' hi hl
  have hge:S.base<=i:=by
   rcases Uh i S.base with hlt | hge
   ·obtain ⟨B,h1,h2⟩:=g.low i hlt
    rw[hi] at h1; cases h1; rw[hl] at h2; cases h2
   ·exact hge
  have hlt:i-S.base<keep.length:=by have:=(Jb.1 hi).1; rw[g.len] at this; omega
  have hk:keep[i-S.base]?=some keep[i-S.base]:=Ja hlt
  obtain⟨B,B'',h1,h2,h3,h4,h5,h6⟩:=g.hp _ _ hk
  rw[show S.base+(i-S.base)=i by omega,hi] at h2
  cases h2
  exact⟨_,B,hge,hk,h1,h3,h4,h5,h6,by simp[β',hk]; omega⟩
 have hsub:∀ b,live β' S'.hp b->live β S.hp b:=by
  rintro b ⟨i,B',h1,h2,h3⟩
  obtain⟨k,B,_,_,k2,_,k4,_,_,k7⟩:=back h1 h2
  exact⟨k,B,k2,by rw[<- k4]; exact h2,by rw[<- k7]; exact h3⟩
 have him:∀ b,img β' S'.hp b->img β S.hp b:=fun b hb=>hb.imp id (hsub b)
 have hσ:∀ k,keep.contains k=true->k<S.hp.length->S.base+keep.idxOf k<S'.hp.length/\β'.f (S.base+keep.idxOf k)=β.f k:=by
  intro k hk _
  have hm:k∈keep:=by simpa using hk
  have hlt:=Kc hm
  refine⟨by rw[g.len]; omega,?_⟩
  have hnl:¬ S.base+List.idxOf k keep<S.base:=by omega
  simp[β',Ja hlt,hnl]
 refine⟨β',h.defers,by rw[g.nt]; exact h.size,fun t=>?_,?_,?_,h.base.trans g.base.symm⟩
 ·rcases g.tm t with e | ⟨e,hn⟩
  ·rw[e]; exact .any _
  ·rw[e]; exact RelD.ren hσ him (h.tm t) hn
 ·have hh:=h.heap
  refine⟨fun i B' b h1 h2 h3=>?_,fun i B' h1 h2 h3=>?_,fun i j B B' b h1 h2 h3 h4 h5 h6=>?_,fun i B' b h1 h2 h3=>?_,hh.bound⟩
  ·obtain ⟨k,B,_,k1,k2,k3,k4,k5,k6,k7⟩:=back h1 h2
   rw[k7] at h3
   have hl:B.live=true:=by rw[<- k4]; exact h2
   obtain⟨C,c1,c2,c3⟩:=hh.blk k B b k2 hl h3
   refine⟨C,by rw[k3]; exact c1,by rw[k5,Jf]; exact c2,fun j d hd=>?_⟩
   rw[k5,Jd] at hd
   cases hx:B.cells[j]? with
   | none=>simp[hx] at hd
   | some x =>
     simp[hx] at hd
     subst hd
     obtain⟨o1,o2⟩:=c3 j x hx
     refine⟨?_,RelD.ren hσ him o2 (DV.nums_go (k6 hl) j x hx)⟩
     cases x<;>first | rfl | exact o1
  ·obtain ⟨k,B,_,k1,k2,k3,k4,k5,k6,k7⟩:=back h1 h2
   rw[k7] at h3
   rw[k5,hh.none k B k2 (by rw[<- k4]; exact h2) h3]; rfl
  ·obtain ⟨k,D,g1,k1,k2,k3,k4,k5,k6,k7⟩:=back h1 h3
   obtain⟨k',D',g2,l1,l2,l3,l4,l5,l6,l7⟩:=back h2 h4
   rw[k7] at h5
   rw[l7] at h6
   have:=hh.inj k k' D D' b k2 l2 (by rw[<- k4]; exact h3) (by rw[<- l4]; exact h4) h5 h6
   subst this
   obtain⟨hi,e1⟩:=Jb.1 k1
   obtain⟨hj,e2⟩:=Jb.1 l1
   have:=(List.getElem_inj g.nodup).1 (e1.trans e2.symm)
   omega
  ·obtain ⟨k,B,_,k1,k2,k3,k4,k5,k6,k7⟩:=back h1 h2
   rw[k7] at h3
   exact hh.avoid k B b k2 (by rw[<- k4]; exact h2) h3
 ·have ev:=h.evo
  have hlow:∀ k,k<O.hp.length->β'.f k=β.f k:=fun k hk=>by simp[β',show k<S.base by omega]
  exact⟨ev.os,ev.tape,ev.output,ev.size,by rw[g.len]; omega,fun k hk=>(hlow k hk).trans (ev.beta k hk),ev.same,ev.shape,fun b hb hl=>ev.im b hb (hsub b hl),ev.X⟩
def QFD(n:Nat)(keep:List Nat)(tm:List (Nat×DV)):List (Nat×DV)->Prop
 | []=>True
 | (t,d)::r=>(d=(V.look tm t).ren (fun k=>n+keep.idxOf k)/\(V.look tm t).nums keep.contains=true)/\QFD n keep tm r
def Qk4:∀ {tm':List (Nat × DV)},QFD n keep tm tm'->∀ t,V.look tm' t = .any\/(V.look tm' t = (V.look tm t).ren (fun k=>n + keep.idxOf k)/\(V.look tm t).nums keep.contains = true)
 | [],_,t=>.inl rfl
 | (a,d) :: r,h,t=>by
   simp only[V.look]
   split
   ·rename_i e; subst e; exact .inr h.1
   ·exact Qk4 h.2 t
def QCO(n:Nat)(keep:List Nat)(cs cs':List DV):Prop:=(DV.nums.go (fun _=>false) cs=true/\cs'=cs)\/(cs'=cs.map (DV.ren fun k=>n+keep.idxOf k)/\DV.nums.go keep.contains cs=true)
def QFM(n:Nat)(keep:List Nat)(hp:Qa):List Nat->Qa->Prop
 | [],[]=>True
 | k::r,B'::r'=>(∃ B,hp[k]?=some B/\B'.ty=B.ty/\B'.live=B.live/\QCO n keep B.cells B'.cells)/\QFM n keep hp r r'
 | _,_=>False
def Qo0:∀ {l:List Nat} {hp':Qa},QFM n keep hp l hp'->hp'.length = l.length/\∀ (i k:Nat),l[i]? = some k->∃ B B',hp[k]? = some B/\hp'[i]? = some B'/\B'.ty = B.ty/\B'.live = B.live/\B'.cells = B.cells.map (DV.ren fun k=>n + keep.idxOf k)/\(B.live = true->DV.nums.go keep.contains B.cells = true)
 | [],[],_=>⟨rfl,fun i k h=>by simp at h⟩
 | [],_::_,h=>h.elim
 | _::_,[],h=>h.elim
 | k0 :: r,B' :: r',h=>by
   obtain⟨⟨B,h1,h2,h3,h4⟩,h5⟩:=h
   obtain⟨g1,g2⟩:=Qo0 h5
   refine⟨by simp[g1],fun i k hk=>?_⟩
   cases i with
   | zero =>
     simp at hk
     subst hk
     refine⟨B,B',h1,rfl,h2,h3,?_⟩
     rcases h4 with⟨n,e⟩ | ⟨e,n⟩
     ·exact⟨by rw[e,<- DV.ren_go,QaL _ _ n],fun _=>QT _ _ n⟩
     ·exact⟨e,fun _=>n⟩
   | succ i=>exact g2 i k (by simpa using hk)
def QhK:List TypeId->Qa:=List.map fun T=>⟨T,false,[]⟩
def VWp.move(keep:List Nat)(Ts:List TypeId)(tm':List (Nat×DV))(hp':Qa)(hb:Ts.length=S.base)(hn:keep.Nodup)(hh:QFM S.base keep S.hp keep hp')(ht:QFD S.base keep S.tm tm')(h:VWp P c Q ⟨S.nt,S.base,tm',QhK Ts++hp'⟩):VWp P c Q S:=fun O β a w hs=>by
 obtain⟨g1,g2⟩:=Qo0 hh
 have hl:(QhK Ts).length=S.base:=by simp[QhK,hb]
 obtain⟨β',h'⟩:=hs.gm (keep:=keep) (S':=⟨S.nt,S.base,tm',QhK Ts++hp'⟩) ⟨rfl,rfl,fun k hk=>by
  have hlt:k<(QhK Ts).length:=by omega
  refine⟨(QhK Ts)[k],by show(QhK Ts++hp')[k]?=_; rw[Jh hlt,Ja hlt],by simp[QhK]⟩,hn,by show(QhK Ts++hp').length=_; rw[Ji,hl,g1],fun i k hk=>by
  obtain⟨B,B',e1,e2,e3⟩:=g2 i k hk
  exact⟨B,B',e1,by show(QhK Ts++hp')[S.base+i]?=_; rw[Jo (by omega),hl,show S.base+i-S.base=i by omega]; exact e2,e3⟩,Qk4 ht⟩
 exact h O β' a w h'
def VLoop.move(keep:List Nat)(Ts:List TypeId)(tm':List (Nat×DV))(hp':Qa)(hb:Ts.length=S.base)(hn:keep.Nodup)(hh:QFM S.base keep S.hp keep hp')(ht:QFD S.base keep S.tm tm')(h:VLoop P c Q ⟨S.nt,S.base,tm',QhK Ts++hp'⟩):VLoop P c Q S:=VWp.move keep Ts tm' hp' hb hn hh ht h
end Go.V
namespace Go.V
open Go
def QFF(n:Nat)(hp:Qa)(tm:List (Nat×DV)):List (Nat×DV)->Prop
 | []=>True
 | (t,d)::r=>frz n hp (V.look tm t)=some d/\QFF n hp tm r
def Qg5:∀ {tm':List (Nat × DV)},QFF n hp tm tm'->∀ t,V.look tm' t = .any\/frz n hp (V.look tm t) = some (V.look tm' t)
 | [],_,t=>.inl rfl
 | (a,d) :: r,h,t=>by
   simp only[V.look]
   split
   ·rename_i e; subst e; exact .inr h.1
   ·exact Qg5 h.2 t
structure Fz(S S':St):Prop where
 nt:S'.nt=S.nt
 base:S'.base=S.base
 hp:QbE S.base S.hp=some S'.hp
 tm:QFF S.base S.hp S.tm S'.tm
def Sim.fz(h:Sim O β S a w)(g:Fz S S'):Sim O β S' a w:=by
 have hn:S.base<=S.hp.length:=by rw[<- h.base]; exact h.evo.len
 have one:∀ {d:DV} {v:Value} {d':DV},RelD w β S.hp d v->frz S.base S.hp d=some d'->RelD w β S'.hp d' v/\HeapRel w β S'.hp/\S'.hp.length=S.base/\∀ b,live β S'.hp b->live β S.hp b:=by
  intro d v d' hd hf
  obtain⟨e,hp',⟨r1,r2⟩,k2,k3,k4,k5⟩:=QdG h.heap hn hd (R:=fun e hp'=>e=d'/\hp'=S'.hp) (by unfold Qv7; rw[hf,g.hp]; exact⟨rfl,rfl⟩)
  subst r1 r2
  exact⟨k2,k3,k4,k5⟩
 obtain⟨_,k3,k4,k5⟩:=one (d:=.any) (v:=undef) (d':=.any) (.any _) rfl
 refine⟨h.defers,by rw[g.nt]; exact h.size,fun t=>?_,k3,?_,h.base.trans g.base.symm⟩
 ·rcases Qg5 g.tm t with e | e
  ·rw[e]; exact .any _
  ·exact(one (h.tm t) e).1
 ·have ev:=h.evo
  exact⟨ev.os,ev.tape,ev.output,ev.size,by rw[k4,<- h.base]; exact Jm _,ev.beta,ev.same,ev.shape,fun b hb hl=>ev.im b hb (k5 b hl),ev.X⟩
def VWp.fz(S':St)(g:Fz S S')(h:VWp P c Q S'):VWp P c Q S:=fun O β a w hs=>h O β a w (hs.fz g)
def VLoop.fz(S':St)(g:Fz S S')(h:VLoop P c Q S'):VLoop P c Q S:=VWp.fz S' g h
end Go.V
namespace Go.V
open Go
def VCalls.giveA{g:FuncId}{args args0:List DV}{hp:Qa}{R:DV->Prop}(ha:Qi (args.map (QmM hp))=some args0)(c:VCalls P g args0 [] fun r h'=>h'=[]/\r.nums (fun _=>false)=true/\R r):
 VCalls P g args hp fun r h'=>h'=hp.map (fun B=>⟨B.ty,false,[]⟩)/\R r:=by
 refine⟨fun w β vs hh hr=>?_⟩
 let βc:Map:=⟨fun _=>none,β.X⟩
 have himc:∀ b,img βc [] b->β.X b:=fun b hb=>by
  rcases hb with hb | ⟨i,D,h1,_⟩
  ·exact hb
  ·simp at h1
 have hlv:Leaves w β hp 0 (img βc []):=⟨fun b hb=>.inl (himc b hb),fun k B b _ h1 h2 h3 hb=>hh.avoid k B b h1 h2 h3 (himc b hb)⟩
 have hhc:HeapRel w βc []:=⟨by simp,by simp,by simp,by simp,hh.bound⟩
 obtain⟨a1,a2⟩:=Qx ha
 have hargs:RelL w βc [] args0 vs:=by
  refine⟨by rw[a1]; simpa using hr.1,fun i d hd=>?_⟩
  have h3:=a2 i d hd
  rw[Jd] at h3
  obtain⟨x,x1,x2⟩:=Qy h3
  exact QfR hh hlv (hr.2 i x x1) x2
 refine(c.run w βc vs hhc hargs).mono ?_
 rintro e w' ⟨v,r,h',β',rfl,ev,hh',hrel,rfl,hf,hR⟩
 have heap_same:∀ b,b<w.heap.size->w'.heap[b]?=w.heap[b]?:=fun b hb=>ev.same b hb (by rintro⟨k,B,h1,_⟩; simp at h1)
 have dead:∀ (k:Nat) (B:Blk),(hp.map (fun B=>(⟨B.ty,false,[]⟩:Blk)))[k]?=some B->B.live=false:=fun k B hk=>by
  rw[Jd] at hk
  obtain⟨x,_,x2⟩:=Qy hk
  subst x2; rfl
 have nolive:∀ b,¬ live β (hp.map (fun B=>(⟨B.ty,false,[]⟩:Blk))) b:=by
  rintro b ⟨k,B,h1,h2,_⟩
  rw[dead k B h1] at h2; cases h2
 have e:Evo w β hp w' β (hp.map (fun B=>⟨B.ty,false,[]⟩)):=⟨ev.os,ev.tape,ev.output,ev.size,by simp,fun _ _=>rfl,fun b hb _=>heap_same b hb,fun b C T m h=>⟨C,m,by rw[heap_same b (Je.1 h).1]; exact h,rfl⟩,fun b _ h=>absurd h (nolive b),rfl⟩
 refine⟨v,r,_,β,rfl,e,?_,hrel.closed hf ?_,rfl,hR⟩
 ·refine ⟨fun k B b h1 h2 h3=>?_,fun k B h1 h2 h3=>?_,fun i j B B' b h1 h2 h3=>?_,fun k B b h1 h2 h3=>?_,fun b hb=>Jj (hh.bound b hb) ev.size⟩
  ·rw[dead k B h1] at h2; cases h2
  ·rw[dead k B h1] at h2; cases h2
  ·rw[dead i B h1] at h3; cases h3
  ·rw[dead k B h1] at h2; cases h2
 ·rintro b (hb | hb)
  ·exact .inl (by rw[ev.X]; exact hb)
  ·exact absurd hb (nolive b)
def Qf9(hlt:∀ k∈sel,k<hp.length):QX hp sel ((sel.map fun k=>hp.getD k default).map (fun B=>⟨B.ty,false,[]⟩))=Qhx hp sel:=by
 unfold QX
 rw[List.drop_of_length_le (by simp),KM,KN]
 apply Kd
 intro k
 rw[QoW,Jd]
 by_cases hk:k<hp.length
 ·rw [Kz hk,Jv]
  have hget:hp[k]?=some hp[k]:=Ja hk
  by_cases hm:k∈sel
  ·have hc:sel.contains k = true:=by simpa using hm
   have hi:=Kc hm
   rw[if_pos hc,if_pos hm,hget,Jv]
   congr 1
   rw[Jl,Jd,Jd,Ja hi]
   simp[Qc4,hget]
  ·have hc:sel.contains k = false:=by simpa using hm
   rw[if_neg (by rw[hc]; simp),if_neg hm,Jl,hget]; rfl
 ·rw [Jt (l:=JA hp.length) (by simpa using hk),Jt (l:=hp) (by omega)]
  simp
def Qgs(sel:List Nat)(args1:List DV)(h0:Qa)(c:VCalls P g args0 [] (Ret d))(hh0:h0=sel.map fun k=>hp.getD k default)(hpl:Qhl hp sel)(hnd:sel.Nodup)(ha1:args1=args.map (DV.ren fun j=>sel.idxOf j))(ha:DV.nums.go sel.contains args=true)(hf:Qi (args1.map (QmM h0))=some args0)(h:K d (Qhx hp sel)):VCalls P g args hp K:=by
 subst hh0
 have c1:=VCalls.giveA (R:=fun r=>r.nums (fun _=>false)=true/\r=d) hf (c.mono fun r h' e=>⟨e.1,e.2.1,e.2⟩)
 refine(VCalls.frame sel hnd (Qdn hpl) (Qdo hpl) c1 ha1 ha).mono ?_
 rintro r h2 ⟨r0,h',⟨rfl,hn,rfl⟩,_,rfl,rfl⟩
 rw[Qf9 fun k hk=>(QdT hpl k hk).1,QeR _ _ hn]
 exact h
end Go.V
namespace Go.V
open Go
def QwW(h:Sim O β S a w)(hk:S.hp[k]?=some B)(hd:B.cells[j]?=some d)(h1:d'.one=true)(hr:∀ v,RelD w β S.hp d v->RelD w β S.hp d' v):
 Sim O β ⟨S.nt,S.base,S.tm,S.hp.set k ⟨B.ty,B.live,B.cells.set j d'⟩⟩ a w:=by
 have hlt:k<S.hp.length:=(Jb.1 hk).1
 have at_:∀ {i:Nat} {D:Blk},(S.hp.set k ⟨B.ty,B.live,B.cells.set j d'⟩)[i]?=some D->∃ D0,S.hp[i]?=some D0/\D.ty=D0.ty/\D.live=D0.live/\D.cells.length=D0.cells.length/\(D=D0\/(i=k/\D0=B/\D.cells=B.cells.set j d')):=by
  intro i D hi
  rw[JR] at hi
  split at hi
  ·rename_i e
   subst e
   simp[hlt] at hi
   subst hi
   exact⟨B,hk,rfl,rfl,by simp,.inr ⟨rfl,rfl,rfl⟩⟩
  ·exact⟨D,hi,rfl,rfl,rfl,.inl rfl⟩
 have lv:∀ b,live β (S.hp.set k ⟨B.ty,B.live,B.cells.set j d'⟩) b->live β S.hp b:=by
  rintro b ⟨i,D,g1,g2,g3⟩
  obtain⟨D0,e1,_,e3,_⟩:=at_ g1
  exact⟨i,D0,e1,e3▸g2,g3⟩
 have e:Evo w β S.hp w β (S.hp.set k ⟨B.ty,B.live,B.cells.set j d'⟩):=
  ⟨rfl,rfl,rfl,Jm _,by simp,fun _ _=>rfl,fun _ _ _=>rfl,fun _ C _ m h=>⟨C,m,h,rfl⟩,fun b _ hb=>lv b hb,rfl⟩
 have hh:=h.heap
 refine⟨h.defers,h.size,fun t=>(h.tm t).mono e,?_,h.evo.trans e,h.base⟩
 refine⟨fun i D b g1 g2 g3=>?_,fun i D g1 g2 g3=>?_,fun i i2 D D2 b g1 g2 g3 g4 g5 g6=>?_,fun i D b g1 g2 g3=>?_,hh.bound⟩
 ·obtain ⟨D0,e1,e2,e3,e4,e5⟩:=at_ g1
  obtain⟨C,c1,c2,c3⟩:=hh.blk i D0 b e1 (e3▸g2) g3
  refine⟨C,e2▸c1,by rw[e4]; exact c2,fun n x hx=>?_⟩
  rcases e5 with rfl | ⟨rfl,rfl,e6⟩
  ·exact⟨(c3 n x hx).1,(c3 n x hx).2.mono e⟩
  ·rw [e6,JR] at hx
   split at hx
   ·rename_i en
    subst en
    have hjl:j<D0.cells.length:=(Jb.1 hd).1
    simp[hjl] at hx
    subst hx
    exact⟨h1,(hr _ (c3 j d hd).2).mono e⟩
   ·exact⟨(c3 n x hx).1,(c3 n x hx).2.mono e⟩
 ·obtain ⟨D0,e1,e2,e3,e4,e5⟩:=at_ g1
  have:=hh.none i D0 e1 (e3▸g2) g3
  rw[this] at e4
  exact List.length_eq_zero_iff.1 e4
 ·obtain ⟨D0,e1,e2,e3,_⟩:=at_ g1
  obtain⟨D1,f1,f2,f3,_⟩:=at_ g2
  exact hh.inj i i2 D0 D1 b e1 f1 (e3▸g3) (f3▸g4) g5 g6
 ·obtain ⟨D0,e1,e2,e3,_⟩:=at_ g1
  exact hh.avoid i D0 b e1 (e3▸g2) g3
def VWp.nilOwnC (k j:Nat) (T:TypeId) (sz:Nat) (hk:S.hp[k]? = some B) (hd:B.cells[j]? = some (.pv (.slc []))) (h:VWp P c Q ⟨S.nt,S.base,S.tm,(S.hp ++ [(⟨T,true,[]⟩:Blk)]).set k ⟨B.ty,B.live,B.cells.set j (.own S.hp.length sz 0 0)⟩⟩):VWp P c Q S:=fun O β a w hs=>by
 have e:Evo w β S.hp w (ext β S.hp.length none) (S.hp++[(⟨T,true,[]⟩:Blk)]):=by
  refine⟨rfl,rfl,rfl,Jm _,by simp,fun j hj=>Qbb hj,fun _ _ _=>rfl,fun _ C _ m h=>⟨C,m,h,rfl⟩,fun b _ hb=>?_,rfl⟩
  obtain⟨j,D,g1,g2,g3⟩:=hb
  rcases KC j S.hp.length with hlt | heq | hgt
  ·rw[Jh hlt] at g1; rw[Qbb hlt] at g3; exact⟨j,D,g1,g2,g3⟩
  ·subst heq; simp[ext] at g3
  ·rw[Jo (by omega),Jt (by simp; omega)] at g1; simp at g1
 have h2:Sim O (ext β S.hp.length none) ⟨S.nt,S.base,S.tm,S.hp++[⟨T,true,[]⟩]⟩ a w:=
  ⟨hs.defers,hs.size,fun u=>(hs.tm u).mono e,QeU hs.heap rfl e (by simp) (fun _=>rfl) (fun _ _=>rfl),hs.evo.trans e,hs.base⟩
 have hlt:k<S.hp.length:=(Jb.1 hk).1
 refine h O _ a w (QwW h2 (k:=k) (j:=j) (B:=B) (d:=.pv (.slc [])) (d':=.own S.hp.length sz 0 0) (by show(S.hp++_)[k]?=_; rw[Jh hlt]; exact hk) hd rfl ?_)
 intro v hv
 cases hv with
 | pv _ _ hp0=>cases hp0 with
   | slc _ ad sz2 val g1 g2 g3 g4 g5=>exact .own0 _ _ ad (by simp) (by simp[ext]) trivial
def VLoop.nilOwnC(k j:Nat)(T:TypeId)(sz:Nat)(hk:S.hp[k]?=some B)(hd:B.cells[j]?=some (.pv (.slc [])))(h:VLoop P c Q ⟨S.nt,S.base,S.tm,(S.hp++[(⟨T,true,[]⟩:Blk)]).set k ⟨B.ty,B.live,B.cells.set j (.own S.hp.length sz 0 0)⟩⟩):VLoop P c Q S:=VWp.nilOwnC k j T sz hk hd h
end Go.V
namespace Go.V
open Go
def Blk.wk(B:Blk):Blk:=⟨B.ty,B.live,DV.wk.go B.cells⟩
def QpK(tm:List (Nat×DV)):List (Nat×DV):=tm.map fun p=>(p.1,p.2.wk)
def QgJ(hp:Qa):Qa:=hp.map Blk.wk
def DV.wk_one(d:DV)(h:d.one=true):d.wk.one=true:=by
 cases d<;>first | rfl | (simp[DV.one] at h)
def Qui:∀ (tm:List (Nat × DV)) (t:Nat),look (QpK tm) t = (look tm t).wk
 | [],_=>rfl
 | (u,d) :: r,t=>by
   simp only[QpK,Jr,look]
   split
   ·rfl
   ·exact Qui r t
def QsH(h:Sim O β S a w):Sim O β ⟨S.nt,S.base,QpK S.tm,QgJ S.hp⟩ a w:=by
 have at_:∀ {i:Nat} {D:Blk},(QgJ S.hp)[i]?=some D->∃ D0,S.hp[i]?=some D0/\D=D0.wk:=by
  intro i D hi
  rw[QgJ,Jd] at hi
  obtain⟨x,h1,h2⟩:=Qy hi
  exact⟨x,h1,h2.symm⟩
 have lv:∀ b,live β (QgJ S.hp) b->live β S.hp b:=by
  rintro b ⟨i,D,g1,g2,g3⟩
  obtain⟨D0,e1,rfl⟩:=at_ g1
  exact⟨i,D0,e1,g2,g3⟩
 have e:Evo w β S.hp w β (QgJ S.hp):=
  ⟨rfl,rfl,rfl,Jm _,by simp[QgJ],fun _ _=>rfl,fun _ _ _=>rfl,fun _ C _ m h=>⟨C,m,h,rfl⟩,fun b _ hb=>lv b hb,rfl⟩
 have hh:=h.heap
 refine⟨h.defers,h.size,fun t=>by show RelD w β (QgJ S.hp) (look (QpK S.tm) t) _; rw[Qui]; exact((h.tm t).mono e).wk,?_,h.evo.trans e,h.base⟩
 refine⟨fun i D b g1 g2 g3=>?_,fun i D g1 g2 g3=>?_,fun i i2 D D2 b g1 g2 g3 g4 g5 g6=>?_,fun i D b g1 g2 g3=>?_,hh.bound⟩
 ·obtain ⟨D0,e1,rfl⟩:=at_ g1
  obtain⟨C,c1,c2,c3⟩:=hh.blk i D0 b e1 g2 g3
  refine⟨C,c1,by show(DV.wk.go D0.cells).length<=_; rw[Q5,Jf]; exact c2,fun n x hx=>?_⟩
  have hx2:(DV.wk.go D0.cells)[n]?=some x:=hx
  rw[Q5,Jd] at hx2
  obtain⟨y,h1,h2⟩:=Qy hx2
  subst h2
  exact⟨DV.wk_one _ (c3 n y h1).1,((c3 n y h1).2.mono e).wk⟩
 ·obtain ⟨D0,e1,rfl⟩:=at_ g1
  have:=hh.none i D0 e1 g2 g3
  show DV.wk.go D0.cells=[]
  rw[this]; rfl
 ·obtain ⟨D0,e1,rfl⟩:=at_ g1
  obtain⟨D1,f1,rfl⟩:=at_ g2
  exact hh.inj i i2 D0 D1 b e1 f1 g3 g4 g5 g6
 ·obtain ⟨D0,e1,rfl⟩:=at_ g1
  exact hh.avoid i D0 b e1 g2 g3
def VWp.wkS(h:VWp P c Q ⟨S.nt,S.base,QpK S.tm,QgJ S.hp⟩):VWp P c Q S:=fun O β a w hs=>h O β a w (QsH hs)
def VLoop.wkS(h:VLoop P c Q ⟨S.nt,S.base,QpK S.tm,QgJ S.hp⟩):VLoop P c Q S:=VWp.wkS h
end Go.V
namespace Go.V
open Go
structure FzN(n:Nat)(S S':St):Prop where
 nt:S'.nt=S.nt
 base:S'.base=S.base
 lo:S.base<=n
 hi:n<=S.hp.length
 hp:QbE n S.hp=some S'.hp
 tm:QFF n S.hp S.tm S'.tm
def Sim.fzN(h:Sim O β S a w)(g:FzN n S S'):Sim O β S' a w:=by
 have one:∀ {d:DV} {v:Value} {d':DV},RelD w β S.hp d v->frz n S.hp d=some d'->RelD w β S'.hp d' v/\HeapRel w β S'.hp/\S'.hp.length=n/\∀ b,live β S'.hp b->live β S.hp b:=by
  intro d v d' hd hf
  obtain⟨e,hp',⟨r1,r2⟩,k2,k3,k4,k5⟩:=QdG h.heap g.hi hd (R:=fun e hp'=>e=d'/\hp'=S'.hp) (by unfold Qv7; rw[hf,g.hp]; exact⟨rfl,rfl⟩)
  subst r1 r2
  exact⟨k2,k3,k4,k5⟩
 obtain⟨_,k3,k4,k5⟩:=one (d:=.any) (v:=undef) (d':=.any) (.any _) rfl
 refine⟨h.defers,by rw[g.nt]; exact h.size,fun t=>?_,k3,?_,h.base.trans g.base.symm⟩
 ·rcases Qg5 g.tm t with e | e
  ·rw[e]; exact .any _
  ·exact(one (h.tm t) e).1
 ·have ev:=h.evo
  exact⟨ev.os,ev.tape,ev.output,ev.size,by rw[k4]; have:=h.base; have:=g.lo; omega,ev.beta,ev.same,ev.shape,fun b hb hl=>ev.im b hb (k5 b hl),ev.X⟩
def Qzk(S S':St):Prop:=Qv6 S S'\/∃ n S1,Qv6 S S1/\FzN n S1 S'
def Sim.weakN(h:Sim O β S a w)(g:Qzk S S'):∃ β',Sim O β' S' a w:=by
 rcases g with g | ⟨n,S1,g1,g2⟩
 ·exact h.weak g
 ·obtain ⟨β',h'⟩:=h.weak g1
  exact⟨β',h'.fzN g2⟩
def VWp.weakN(S':St)(g:Qzk S S')(h:VWp P c Q S'):VWp P c Q S:=fun O β a w hs=>
 let ⟨β',hs'⟩:=hs.weakN g
 h O β' a w hs'
def QDx {c:Code} {Q:Exit->St->Prop} {ι:Type} (I:ι->St) (μ:ι->Nat) (i₀:ι) (h₀:Qzk S (I i₀)) (round:∀ i,QB P c (QaF Q fun S'=>∃ j,μ j < μ i/\Qzk S' (I j)) (I i)):VLoop P c Q S:=by
 intro O β a w hs b k cs
 have key:∀ n β i a w,μ i = n->Sim O β (I i) a w ->
  ∃ e a' w',QmJ O Q e a' w'/\Arrives P (lone (b.at a (.code c::.inLoop c::k)) cs w) b k cs e a' w':=by
  intro n
  induction n using KA with
  | _ n ih =>
    intro β i a w hn hs
    obtain⟨e,a₁,w₁,hq,harr⟩:=Qv c _ _ (round i) O β a w hs b (.inLoop c::k) cs
    obtain⟨β₁,S₁,hs₁,hq⟩:=hq
    cases e with
    | normal =>
      obtain⟨j,hlt,hle⟩:=hq
      obtain⟨β₂,hs₂⟩:=hs₁.weakN hle
      obtain⟨e₂,a₂,w₂,hq₂,harr₂⟩:=ih (μ j) (hn▸hlt) β₂ j a₁ w₁ rfl hs₂
      exact⟨e₂,a₂,w₂,hq₂,.of_steps (Steps.trans harr (.one step_inLoop)) harr₂⟩
    | exit id=>exact⟨_,a₁,w₁,⟨β₁,S₁,hs₁,hq⟩,.pass (x:=.inLoop c) rfl (fun _ _=>.inl (by simp)) harr⟩
    | goto l=>exact⟨_,a₁,w₁,⟨β₁,S₁,hs₁,hq⟩,.pass (x:=.inLoop c) rfl (fun _ _=>.inl (by simp)) harr⟩
    | ret=>exact⟨_,a₁,w₁,⟨β₁,S₁,hs₁,hq⟩,.pass (x:=.inLoop c) rfl (fun _ _=>.inl (by simp)) harr⟩
    | panic ch=>exact⟨_,a₁,w₁,⟨β₁,S₁,hs₁,hq⟩,.pass (x:=.inLoop c) rfl (fun _ _=>.inl (by simp)) harr⟩
    | outgrown=>exact⟨_,a₁,w₁,⟨β₁,S₁,hs₁,hq⟩,.pass (x:=.inLoop c) rfl (fun _ _=>.inl (by simp)) harr⟩
 obtain⟨β₀,hs₀⟩:=hs.weakN h₀
 obtain⟨e,a',w',hq,harr⟩:=key _ β₀ i₀ a w rfl hs₀
 exact⟨e,a',w',hq,.of_steps (.one step_loop) harr⟩
end Go.V
namespace Go.V
def QlT(h:n<=140737488355328):(n<=140737488355328)=True:=eq_true h
end Go.V
namespace Go.V
def QgP(e:Enc α)(l:List α)(T:TypeId)(a b:Nat)(h:a<=b/\b<=l.length):QkD (some (none,T,e.sz)) (fz e l) a b=some (.pv (.sl (fz e ((l.take b).drop a)))):=by
 have h1:fz e l=[]\/(fz e l)[0]?.map Kx=some e.sz:=by
  cases l with
  | nil=>exact .inl rfl
  | cons x r=>exact .inr (Qo2 e (x::r) (by simp))
 simp only[QkD]
 rw[if_pos ⟨h.1,by rw[Qmc]; exact h.2,h1⟩,QuQ,QCm]
end Go.V
namespace Go.V
def Qf6(e:Enc α)(l:List α):(fz e l=[]\/(fz e l)[0]?.map Kx=some e.sz)=True:=by
 refine eq_true ?_
 cases l with
 | nil=>exact .inl rfl
 | cons x r=>exact .inr (Qo2 e (x::r) (by simp))
def Qcu(n:Nat):((n:Int)+1).toNat=n+1:=by omega
def QbL(n:Nat):((n:Int)-1).toNat=n-1:=by omega
end Go.V
namespace Go.V
open Go
attribute [go_sem ↓] Quj QAo QAp Qwl QAv QvD QnZ QvG QyZ QqR QvE QvF Qy0 Qhm QlF QjN Qif Qnw QlG QrF QsV QsR QpZ QsU QsT QsS QA0 Qwy QyV QyS Qvq QyU QyT QvH Qpn QwF Qsg QrJ Qyn QAa Qwg QAc
attribute [go_sem] Qwq QkV Qny Qu8 Qpv Qh4 QjQ QnV Qwp QkU Qnx Qu7 QrR Qjs QAj Qm4 QrP Qjq QlL QqA Qh0 QeA Qwr QkW Qnz QrL Qjm QlJ QkI Qgi Qho Qj9 QrQ Qjr QlM QqB Qwo QkT Qu6 QmU QgY Qih QkJ Qgj Qjf Qfy QrM Qjn QlK Qjh QfA Qgo Qin QrO Qjp Qjg Qfz Qgn Qim QrN Qjo QmT QgX Qig Qmh Qu9 Qqx Qmi Qqy Qva Qqf QmV QgZ Qjl QAC QtQ QxQ QCK QCx Qza Qzd Qzb Qzc Qwt QrS QuA QyX QxZ Qws Qpu QwP Qsy Qsz QwQ QsB Qsx QwR QsA Qrx Qt1 Qt0 Qqa QEW QyM QCD QnC QlO Qii QjR QxM QxN QGE Qvb Qvc Qqq Qqp Qr3 Qww Qr2 QCp QER QCo QCn QyD QCq QyC QCw QyG Qn4 Qga Qme QBn QBm Qwm QrI Qyb QBP QAr QAs Qwu Qwv QsC Qz8 Qz9 Qy8 Qy9 QwX QwY QFa Qzi Qsi Qrc Qn6 QEm QBE QEn Qvf Qr7 QyL Qr8 QqD Qwx Qwn QAi Qys QkL QuL Qr1 QuK Qr0 QuH QrZ QuG QrY QCT QCS QCf QB3 QB8 QCe QEJ QB2 QCd QB7 QB9 QCa QCb QCc QB6 QB5 QB4 Qdh QAQ QAO QDK QDJ QCC QED QDy QBR QBS QBQ QAn QFd QvR QCZ QC0 Qwh Qlg Qlf Qpp QrA QFb QFc QtX Qqd QyP Qvg QBG Qx1 QlI QBF QyY QAB QEX Qr4 QpB QpC QGF QwU QsG QnR Qqt Qnh Qng Qle Qld Qlc Qib QrB Qwj Qrz QCU QAG QAF QBB QBA QtP pvs List.flatten_nil KM QcN QkZ Qgf Qbk Qkx QmS QAE Qed QrW V.kill Qhx V.rows List.toList_toArray List.getElem?_cons_zero KJ List.getElem?_nil Jc Jg Jr Kh KO KN KZ List.take_zero List.take_nil K0 Kg List.drop_nil List.set_cons_zero List.set_cons_succ List.any_nil List.any_cons Jv Option.map_none Kt Ks Option.getD_none Option.isSome_some Option.isSome_none Kb Int.toNat_natCast Ju Nat.add_zero Uf Ul KH decide_true decide_false true_and and_true and_self false_and and_false true_or or_true or_false false_or or_self not_true_eq_false not_false_eq_true ne_eq Ke J9 Bool.or_true Bool.true_or Bool.or_false Bool.false_or Bool.and_true Bool.true_and Bool.and_false Bool.false_and Bool.or_self Bool.and_self Bool.not_not QCV QCW cond_true cond_false Bool.cond_self beq_self_eq_true Nat.lt_irrefl Jm Qry QAb QxT QtU Qqb Qvw QqM Qvy Qvz QvA Qmp Qv1 Qre Qn7 QpV Qnj Op.operands QxP Qo4 QCr QES Qmc Qq1 QdZ QvL Jk Qi3 Qj8 QHd DV.wk DV.wk.go PV.wk QHk QyF Qmf QuY QCu QCt QCv QuW QuX QuV QmO Qpl QGu QGv QuE QuF QuC QuD Ret DV.nums DV.nums.go
end Go.V
namespace Go.V
def polyB:BitVec 32:=2197175160#32
def rb(r:BitVec 32):BitVec 32:=(r >>> 1) ^^^ (if r.getLsbD 0=true then polyB else 0#32)
def rbN:Nat->BitVec 32->BitVec 32
 | 0,r=>r
 | n+1,r=>rb (rbN n r)
def QEg(x y:BitVec 32):rb (x ^^^ y)=rb x ^^^ rb y:=by
 apply BitVec.eq_of_getLsbD_eq
 intro i hi
 simp only[rb,BitVec.getLsbD_xor,BitVec.getLsbD_ushiftRight]
 cases x.getLsbD 0<;>cases y.getLsbD 0<;>simp<;>cases x.getLsbD (1+i)<;>cases y.getLsbD (1+i)<;>cases polyB.getLsbD i<;>rfl
def QBu(n:Nat)(x y:BitVec 32):rbN n (x ^^^ y)=rbN n x ^^^ rbN n y:=by
 induction n with
 | zero=>rfl
 | succ n ih=>simp only[rbN,ih,QEg]
def QBw(m n:Nat)(x:BitVec 32):rbN (m+n) x=rbN m (rbN n x):=by
 induction m with
 | zero=>simp[rbN]
 | succ m ih=>rw[K2]; simp only[rbN,ih]
def QBv (n:Nat) (x:BitVec 32) (h:∀ i,i < n->x.getLsbD i = false):rbN n x = x >>> n:=by
 induction n with
 | zero=>simp[rbN]
 | succ n ih =>
   rw[rbN,ih (fun i hi=>h i (by omega)),rb]
   have e:(x >>> n).getLsbD 0=false:=by rw[BitVec.getLsbD_ushiftRight]; exact h _ (by omega)
   rw[e]
   simp[BitVec.shiftRight_add]
def b32(b:UInt8):BitVec 32:=b.toBitVec.setWidth 32
def cb(r:BitVec 32)(b:UInt8):BitVec 32:=rbN 8 (r ^^^ b32 b)
def le:List UInt8->BitVec 32
 | []=>0#32
 | b::l=>b32 b ^^^ (le l <<< 8)
def QAT(x:BitVec 32)(n:Nat)(h:∀ i,32-n<=i->x.getLsbD i=false)(hn:n<=32):rbN n (x <<< n)=x:=by
 rw[QBv _ _ (fun i hi=>by simp[BitVec.getLsbD_shiftLeft,hi])]
 apply BitVec.eq_of_getLsbD_eq
 intro i hi
 simp only[BitVec.getLsbD_ushiftRight,BitVec.getLsbD_shiftLeft]
 by_cases h1:n+i<32
 ·simp[h1]
 ·simp[h1]; rw[h i (by omega)]
def Qc7(b:BitVec 32):IntKind.u32.wrap (b.toNat:Int)=(b.toNat:Int):=by
 have:=b.isLt
 simp[IntKind.wrap,IntKind.signed,IntKind.bits]; omega
def Qe1(x:BitVec 32):BitVec.ofInt 32 (x.toNat:Int)=x:=by
 apply BitVec.eq_of_toNat_eq
 have:=x.isLt
 simp
def Qrr(x y:BitVec 32):bits .xor .u32 (x.toNat:Int) (y.toNat:Int)=((x ^^^ y).toNat:Int):=by
 show IntKind.u32.wrap ((BitVec.ofInt 32 (x.toNat:Int) ^^^ BitVec.ofInt 32 (y.toNat:Int)).toNat:Int)=_
 rw[Qe1,Qe1,Qc7]
def QFg(x y:BitVec 32):bits .and .u32 (x.toNat:Int) (y.toNat:Int)=((x &&& y).toNat:Int):=by
 show IntKind.u32.wrap ((BitVec.ofInt 32 (x.toNat:Int) &&& BitVec.ofInt 32 (y.toNat:Int)).toNat:Int)=_
 rw[Qe1,Qe1,Qc7]
def QDV(x:BitVec 32)(n:Nat):(x.toNat:Int).fdiv (2 ^ n)=((x >>> n).toNat:Int):=by
 have e:((2:Int) ^ n)=((2 ^ n:Nat):Int):=by rw[Int.natCast_pow]; rfl
 rw[e,Int.fdiv_eq_ediv_of_nonneg _ (Int.natCast_nonneg _),BitVec.toNat_ushiftRight,Nat.shiftRight_eq_div_pow]
 rfl
def QvT(b:UInt8):IntKind.u32.wrap (b.toNat:Int)=((b32 b).toNat:Int):=by
 have e:(b32 b).toNat=b.toNat:=by
  have:=b.toNat_lt
  simp[b32]
 rw[<- e,Qc7]
end Go.V
namespace Go.V
open Go
def QrC(e:Option (Option Nat×TypeId×Nat))(xs:List (List PV))(a b c:Nat):Option DV:=
 match e with
 | some (none,_,sz)=>if a<=b/\b=c/\b<=xs.length/\(xs=[]\/(xs[0]?.map Kx)=some sz) then some (.pv (.slc ((xs.take b).drop a))) else none
 | _=>none
def QpO(h1:0<=j)(h2:0<=m):Qaw P T (.pv (.sl xs)) none (some (.pv (.lit (.int k2 j)))) (some (.pv (.lit (.int k3 m))))=QrC (QG P T) xs 0 j.toNat m.toNat:=by
 unfold Qaw QrC
 rcases QG P T with _ | ⟨_ | n,t,sz⟩<;>simp[Qkx,QkA,QmL,h1,h2]
def Qwk(e:Enc α)(l:List α)(T:TypeId):QrC (some (none,T,e.sz)) (fz e l) 0 l.length l.length=some (.pv (.slc (fz e l))):=by
 unfold QrC
 have h:=Qf6 e l
 simp only[Qmc,JE,Jm,h,and_self,if_true,Kg]
 rw[Kl (by rw[Qmc]; exact Jm _)]
attribute [go_sem] QpO
variable {α:Type} (e:Enc α)
theorem QsL(l:List α)(i:Nat)(x:α)(h:i<l.length):splice (cells e l) (i*e.sz) ((e.enc x).map DV.pv)=cells e (l.set i x):=by
 have:=Qlb e l [x] i
 rw[List.set_eq_take_append_cons_drop,if_pos h]
 rw[show l.take i++x::l.drop (i+1)=l.take i++[x]++l.drop (i+[x].length) by simp,<- this]
 congr 1
 simp[cells]
theorem Que(p:Nat->Bool)(z:List DV)(h:DV.nums.go p z=true):∀ n,DV.nums.go p (mk z n)=true
 | 0=>rfl
 | n+1=>QEL h (Que p z h n)
end Go.V
namespace Go.V
open Go
def QCi(hh:HeapRel w β hp):HeapRel w β (QgJ hp)/\Evo w β hp w β (QgJ hp):=by
 have at_:∀ {i:Nat} {D:Blk},(QgJ hp)[i]?=some D->∃ D0,hp[i]?=some D0/\D=D0.wk:=by
  intro i D hi
  rw[QgJ,Jd] at hi
  obtain⟨x,h1,h2⟩:=Qy hi
  exact⟨x,h1,h2.symm⟩
 have lv:∀ b,live β (QgJ hp) b->live β hp b:=by
  rintro b ⟨i,D,g1,g2,g3⟩
  obtain⟨D0,e1,rfl⟩:=at_ g1
  exact⟨i,D0,e1,g2,g3⟩
 have e:Evo w β hp w β (QgJ hp):=
  ⟨rfl,rfl,rfl,Jm _,by simp[QgJ],fun _ _=>rfl,fun _ _ _=>rfl,fun _ C _ m h=>⟨C,m,h,rfl⟩,fun b _ hb=>lv b hb,rfl⟩
 refine⟨⟨fun i D b g1 g2 g3=>?_,fun i D g1 g2 g3=>?_,fun i i2 D D2 b g1 g2 g3 g4 g5 g6=>?_,fun i D b g1 g2 g3=>?_,hh.bound⟩,e⟩
 ·obtain ⟨D0,e1,rfl⟩:=at_ g1
  obtain⟨C,c1,c2,c3⟩:=hh.blk i D0 b e1 g2 g3
  refine⟨C,c1,by show(DV.wk.go D0.cells).length<=_; rw[Q5,Jf]; exact c2,fun n x hx=>?_⟩
  have hx2:(DV.wk.go D0.cells)[n]?=some x:=hx
  rw[Q5,Jd] at hx2
  obtain⟨y,h1,h2⟩:=Qy hx2
  subst h2
  exact⟨DV.wk_one _ (c3 n y h1).1,((c3 n y h1).2.mono e).wk⟩
 ·obtain ⟨D0,e1,rfl⟩:=at_ g1
  have:=hh.none i D0 e1 g2 g3
  show DV.wk.go D0.cells=[]
  rw[this]; rfl
 ·obtain ⟨D0,e1,rfl⟩:=at_ g1
  obtain⟨D1,f1,rfl⟩:=at_ g2
  exact hh.inj i i2 D0 D1 b e1 f1 g3 g4 g5 g6
 ·obtain ⟨D0,e1,rfl⟩:=at_ g1
  exact hh.avoid i D0 b e1 g2 g3
def VCalls.wkH(c:VCalls P g (DV.wk.go args) (QgJ hp) R):VCalls P g args hp R:=by
 refine VCalls.wkA ⟨fun w β vs hh ha=>?_⟩
 obtain⟨h1,e1⟩:=QCi hh
 refine(c.run w β vs h1 ⟨ha.1,fun i d hd=>(ha.2 i d hd).mono e1⟩).mono ?_
 rintro _ w' ⟨v,r,h',β',a,b,c,d,k⟩
 exact⟨v,r,h',β',a,e1.trans b,c,d,k⟩
theorem QgI:QgJ []=[]:=rfl
theorem Qe7:QgJ (B::r)=⟨B.ty,B.live,DV.wk.go B.cells⟩::QgJ r:=rfl
theorem Qex:DV.wk.go []=[]:=rfl
theorem QdE:DV.wk.go (d::r)=d.wk::DV.wk.go r:=rfl
end Go.V
namespace Go.V
open Go
end Go.V
namespace Go.V
open Go
def SimLe(S S':St):Prop:=∀ (O:Org) (β:Map) (a:Act) (w:World),Sim O β S a w->∃ β',Sim O β' S' a w
def SimLe.refl(S:St):SimLe S S:=fun _ β _ _ h=>⟨β,h⟩
def SimLe.trans(h:SimLe S S1)(g:SimLe S1 S2):SimLe S S2:=fun O β a w hs=>
 let ⟨β1,h1⟩:=h O β a w hs
 g O β1 a w h1
def SimLe.weak(h:Qv6 S S'):SimLe S S':=fun _ _ _ _ hs=>hs.weak h
def SimLe.fzN(h:FzN n S S'):SimLe S S':=fun _ β _ _ hs=>⟨β,hs.fzN h⟩
def SimLe.wk(h:SimLe ⟨S.nt,S.base,QpK S.tm,QgJ S.hp⟩ S'):SimLe S S':=fun O β a w hs=>h O β a w (QsH hs)
def VWp.simLe(S':St)(g:SimLe S S')(h:VWp P c Q S'):VWp P c Q S:=fun O β a w hs=>
 let ⟨β',hs'⟩:=g O β a w hs
 h O β' a w hs'
def VLoop.simLe(S':St)(g:SimLe S S')(h:VLoop P c Q S'):VLoop P c Q S:=VWp.simLe S' g h
def VDraw.simLe{id:Nat}(S':St)(g:SimLe S S')(h:VDraw P id ops Q S'):VDraw P id ops Q S:=VWp.simLe S' g h
def Qqo:Nat->Code->Code
 | n+1,.seq a b=>.seq a (Qqo n b)
 | _,_=>.skip
def QeQ:Nat->Code->Code
 | n+1,.seq _ b=>QeQ n b
 | _,c=>c
def QF1:∀ (n:Nat) {c:Code} {Q:Exit->St->Prop} {S:St},QB P (Qqo n c) (QaF Q fun S'=>∃ S'',SimLe S' S''/\VWp P (QeQ n c) Q S'') S->VWp P c Q S
 | 0,c,Q,S,h=>by
   have h:∃ S'',SimLe S S''/\VWp P (QeQ 0 c) Q S'':=by cases c<;>exact h
   obtain⟨S'',h1,h2⟩:=h
   cases c<;>exact VWp.simLe S'' h1 h2
 | n + 1,c,Q,S,h=>by
   cases c with
   | seq a b =>
     intro O β ac w hs
     simp only[Qqo,QB] at h
     refine wp_seq (wp_mono (Qv a _ S h O β ac w hs) fun e a' w' hq=>?_)
     obtain⟨β',S',hs',hq⟩:=hq
     cases e with
     | normal=>exact QF1 n (c:=b) hq O β' a' w' hs'
     | _=>exact⟨β',S',hs',hq⟩
   | _ =>
     obtain⟨S'',h1,h2⟩:=(h:∃ S'',SimLe S S''/\_)
     exact VWp.simLe S'' h1 h2
theorem Qoe:QpK []=[]:=rfl
theorem Qk3:QpK ((t,d)::r)=(t,d.wk)::QpK r:=rfl
def Qzn(a b:List DV):DV.wk.go (a++b)=DV.wk.go a++DV.wk.go b:=by rw[Q5,Q5,Q5,Kw]
theorem Qdq:Qqo (n+1) (.seq a b)=.seq a (Qqo n b):=rfl
def QcG:Qqo 0 c=.skip:=by cases c<;>rfl
theorem QaK:QeQ (n+1) (.seq a b)=QeQ n b:=rfl
def Qar:QeQ 0 c=c:=by cases c<;>rfl
def QAx(h:QB P c Q ⟨S.nt,S.base,QpK S.tm,QgJ S.hp⟩):∃ S'',SimLe S S''/\VWp P c Q S'':=
 ⟨_,.wk (.refl _),Qv _ _ _ h⟩
def QkH(P:Program)(rs:List ResultVar)(n:Nat)(R:DV->Qa->Prop)(e:Exit)(S:St):Prop:=Qfu P rs n R e ⟨S.nt,S.base,QpK S.tm,QgJ S.hp⟩
def Qps:QkH P rs n R .ret S=Qfu P rs n R .ret ⟨S.nt,S.base,QpK S.tm,QgJ S.hp⟩:=(rfl)
def VWp.postK(h:VWp P c (QkH P rs n R) S):VWp P c (Qfu P rs n R) S:=fun O β a w hs=>
 wp_mono (h O β a w hs) fun _ _ _ ⟨β',_,hs',hq⟩=>⟨β',_,QsH hs',hq⟩
def QkS(hf:P.funcs[g]?=some fn)(hb:fn.body=some c)(hname:(fn.name == "runtime.NumGoroutine")=false)(hn:args.length<=fn.ntmps)(hc:QB P c (QkH P fn.results.toList h.length R) ⟨fn.ntmps,h.length,QgM 0 args,h⟩):VCalls P g args h R:=
 Qde hf hb hname hn (Qv c _ _ hc).postK
attribute [go_sem ↓] Qps
attribute [go_sem] Qoe Qk3 QgI Qe7 Qex QdE
end Go.V
namespace Go.V
open Go
variable {α:Type} (e:Enc α)
end Go.V
namespace Go.V
open Go
def rn{A P Q:Prop}(a:A)(q:Q)(h:A->P=Q:=by intro f1; (try simp(maxSteps:=2000000) (implicitDefEqProofs:=false) (disch:=first | omega | assumption | (simp only[List.length_cons,List.length_nil,Nat.zero_add,Nat.reduceAdd]; done) | (simp only[IntKind.wrap_i64]; omega) | (simp only[List.length_replicate,List.length_set,List.length_append,List.length_cons,List.length_nil,List.length_take,List.length_drop,List.length_map]<;>omega) | fail) only[go_sem,V.splice,V.mk,mkI,mkB,mkU,↓reduceIte,reduceCtorEq,Nat.reduceAdd,Nat.reduceLT,Nat.reduceLeDiff,Nat.reduceEqDiff,Nat.reduceMul,Nat.reduceSub,Nat.reduceBEq,Nat.reduceDiv,Nat.reducePow,Int.reduceToNat,Int.reduceLT,Int.reduceLE,Int.reduceNeg,Int.reduceAdd,Int.reduceSub,Int.reduceMul,Int.reduceEq,Int.reduceBEq,Int.reduceBNe,f1]); exact rfl):P:=(h a).mpr q
def rd{A P:Prop}(a:A)(h:A->P:=by intro f1; first | (simp(maxSteps:=2000000) (implicitDefEqProofs:=false) (disch:=first | omega | assumption | (simp only[List.length_cons,List.length_nil,Nat.zero_add,Nat.reduceAdd]; done) | (simp only[IntKind.wrap_i64]; omega) | (simp only[List.length_replicate,List.length_set,List.length_append,List.length_cons,List.length_nil,List.length_take,List.length_drop,List.length_map]<;>omega) | fail) only[go_sem,V.splice,V.mk,mkI,mkB,mkU,↓reduceIte,reduceCtorEq,Nat.reduceAdd,Nat.reduceLT,Nat.reduceLeDiff,Nat.reduceEqDiff,Nat.reduceMul,Nat.reduceSub,Nat.reduceBEq,Nat.reduceDiv,Nat.reducePow,Int.reduceToNat,Int.reduceLT,Int.reduceLE,Int.reduceNeg,Int.reduceAdd,Int.reduceSub,Int.reduceMul,Int.reduceEq,Int.reduceBEq,Int.reduceBNe,f1]<;>fail "no") | fail "no"):P:=h a
def sG{A X Y Q1 Q2:Prop}{all:List Oper}{o:Oper}{r:List Oper}{K:St->Prop}{G:Bool}(a:A)(q1:X->Q1)(q2:Y->Q2)(hx:(G=true)=X:=by(try simp only[decide_eq_true_eq,decide_eq_false_iff_not,Bool.or_eq_true,Bool.and_eq_true,Bool.or_eq_false_iff,Bool.and_eq_false_imp,Bool.not_eq_true',Bool.not_eq_false',beq_iff_eq,beq_eq_false_iff_ne,bne_iff_ne,bne_eq_false_iff_eq,ne_eq,Bool.not_eq_eq_eq_not,Bool.not_true,Bool.not_false,Int.not_lt,Int.not_le,Nat.not_lt,Nat.not_le]); exact rfl)(hy:(G=false)=Y:=by(try simp only[decide_eq_true_eq,decide_eq_false_iff_not,Bool.or_eq_true,Bool.and_eq_true,Bool.or_eq_false_iff,Bool.and_eq_false_imp,Bool.not_eq_true',Bool.not_eq_false',beq_iff_eq,beq_eq_false_iff_ne,bne_iff_ne,bne_eq_false_iff_eq,ne_eq,Bool.not_eq_eq_eq_not,Bool.not_true,Bool.not_false,Int.not_lt,Int.not_le,Nat.not_lt,Nat.not_le]); exact rfl)(h1:A->X->G=true->(Qft P all o r K S true)=Q1:=by intro f1 hZ hG; (try rewrite [hG]); (first | rewrite [(hZ:_=false)] | rewrite [(hZ:_=true)] | skip); (try simp(maxSteps:=2000000) (implicitDefEqProofs:=false) (disch:=first | omega | assumption | (simp only[List.length_cons,List.length_nil,Nat.zero_add,Nat.reduceAdd]; done) | (simp only[IntKind.wrap_i64]; omega) | (simp only[List.length_replicate,List.length_set,List.length_append,List.length_cons,List.length_nil,List.length_take,List.length_drop,List.length_map]<;>omega) | fail) only[go_sem,V.splice,V.mk,mkI,mkB,mkU,↓reduceIte,reduceCtorEq,Nat.reduceAdd,Nat.reduceLT,Nat.reduceLeDiff,Nat.reduceEqDiff,Nat.reduceMul,Nat.reduceSub,Nat.reduceBEq,Nat.reduceDiv,Nat.reducePow,Int.reduceToNat,Int.reduceLT,Int.reduceLE,Int.reduceNeg,Int.reduceAdd,Int.reduceSub,Int.reduceMul,Int.reduceEq,Int.reduceBEq,Int.reduceBNe,f1]); exact rfl)(h2:A->Y->G=false->(Qft P all o r K S false)=Q2:=by intro f1 hZ hG; (try rewrite [hG]); (first | rewrite [(hZ:_=false)] | rewrite [(hZ:_=true)] | skip); (try simp(maxSteps:=2000000) (implicitDefEqProofs:=false) (disch:=first | omega | assumption | (simp only[List.length_cons,List.length_nil,Nat.zero_add,Nat.reduceAdd]; done) | (simp only[IntKind.wrap_i64]; omega) | (simp only[List.length_replicate,List.length_set,List.length_append,List.length_cons,List.length_nil,List.length_take,List.length_drop,List.length_map]<;>omega) | fail) only[go_sem,V.splice,V.mk,mkI,mkB,mkU,↓reduceIte,reduceCtorEq,Nat.reduceAdd,Nat.reduceLT,Nat.reduceLeDiff,Nat.reduceEqDiff,Nat.reduceMul,Nat.reduceSub,Nat.reduceBEq,Nat.reduceDiv,Nat.reducePow,Int.reduceToNat,Int.reduceLT,Int.reduceLE,Int.reduceNeg,Int.reduceAdd,Int.reduceSub,Int.reduceMul,Int.reduceEq,Int.reduceBEq,Int.reduceBNe,f1]); exact rfl):Qft P all o r K S G:=
 QgS (fun e=>by subst e; exact(h1 a (hx▸rfl) rfl).mpr (q1 (hx▸rfl))) (fun e=>by subst e; exact(h2 a (hy▸rfl) rfl).mpr (q2 (hy▸rfl)))
def sD{A X Y Q1 Q2:Prop}{all:List Oper}{o:Oper}{r:List Oper}{fs:List (List Nat×Bool)}{K:St->Prop}{G:Bool}(a:A)(q1:X->Q1)(q2:Y->Q2)(hx:(G=true)=X:=by(try simp only[decide_eq_true_eq,decide_eq_false_iff_not,Bool.or_eq_true,Bool.and_eq_true,Bool.or_eq_false_iff,Bool.and_eq_false_imp,Bool.not_eq_true',Bool.not_eq_false',beq_iff_eq,beq_eq_false_iff_ne,bne_iff_ne,bne_eq_false_iff_eq,ne_eq,Bool.not_eq_eq_eq_not,Bool.not_true,Bool.not_false,Int.not_lt,Int.not_le,Nat.not_lt,Nat.not_le]); exact rfl)(hy:(G=false)=Y:=by(try simp only[decide_eq_true_eq,decide_eq_false_iff_not,Bool.or_eq_true,Bool.and_eq_true,Bool.or_eq_false_iff,Bool.and_eq_false_imp,Bool.not_eq_true',Bool.not_eq_false',beq_iff_eq,beq_eq_false_iff_ne,bne_iff_ne,bne_eq_false_iff_eq,ne_eq,Bool.not_eq_eq_eq_not,Bool.not_true,Bool.not_false,Int.not_lt,Int.not_le,Nat.not_lt,Nat.not_le]); exact rfl)(h1:A->X->G=true->(QpD P all o r fs K S true)=Q1:=by intro f1 hZ hG; (try rewrite [hG]); (first | rewrite [(hZ:_=false)] | rewrite [(hZ:_=true)] | skip); (try simp(maxSteps:=2000000) (implicitDefEqProofs:=false) (disch:=first | omega | assumption | (simp only[List.length_cons,List.length_nil,Nat.zero_add,Nat.reduceAdd]; done) | (simp only[IntKind.wrap_i64]; omega) | (simp only[List.length_replicate,List.length_set,List.length_append,List.length_cons,List.length_nil,List.length_take,List.length_drop,List.length_map]<;>omega) | fail) only[go_sem,V.splice,V.mk,mkI,mkB,mkU,↓reduceIte,reduceCtorEq,Nat.reduceAdd,Nat.reduceLT,Nat.reduceLeDiff,Nat.reduceEqDiff,Nat.reduceMul,Nat.reduceSub,Nat.reduceBEq,Nat.reduceDiv,Nat.reducePow,Int.reduceToNat,Int.reduceLT,Int.reduceLE,Int.reduceNeg,Int.reduceAdd,Int.reduceSub,Int.reduceMul,Int.reduceEq,Int.reduceBEq,Int.reduceBNe,f1]); exact rfl)(h2:A->Y->G=false->(QpD P all o r fs K S false)=Q2:=by intro f1 hZ hG; (try rewrite [hG]); (first | rewrite [(hZ:_=false)] | rewrite [(hZ:_=true)] | skip); (try simp(maxSteps:=2000000) (implicitDefEqProofs:=false) (disch:=first | omega | assumption | (simp only[List.length_cons,List.length_nil,Nat.zero_add,Nat.reduceAdd]; done) | (simp only[IntKind.wrap_i64]; omega) | (simp only[List.length_replicate,List.length_set,List.length_append,List.length_cons,List.length_nil,List.length_take,List.length_drop,List.length_map]<;>omega) | fail) only[go_sem,V.splice,V.mk,mkI,mkB,mkU,↓reduceIte,reduceCtorEq,Nat.reduceAdd,Nat.reduceLT,Nat.reduceLeDiff,Nat.reduceEqDiff,Nat.reduceMul,Nat.reduceSub,Nat.reduceBEq,Nat.reduceDiv,Nat.reducePow,Int.reduceToNat,Int.reduceLT,Int.reduceLE,Int.reduceNeg,Int.reduceAdd,Int.reduceSub,Int.reduceMul,Int.reduceEq,Int.reduceBEq,Int.reduceBNe,f1]); exact rfl):QpD P all o r fs K S G:=
 QiB (fun e=>by subst e; exact(h1 a (hx▸rfl) rfl).mpr (q1 (hx▸rfl))) (fun e=>by subst e; exact(h2 a (hy▸rfl) rfl).mpr (q2 (hy▸rfl)))
def sB{A X Y Q1 Q2:Prop}{c d:Code}{Q:Exit->St->Prop}{G:Bool}(a:A)(q1:X->Q1)(q2:Y->Q2)(hx:(G=true)=X:=by(try simp only[decide_eq_true_eq,decide_eq_false_iff_not,Bool.or_eq_true,Bool.and_eq_true,Bool.or_eq_false_iff,Bool.and_eq_false_imp,Bool.not_eq_true',Bool.not_eq_false',beq_iff_eq,beq_eq_false_iff_ne,bne_iff_ne,bne_eq_false_iff_eq,ne_eq,Bool.not_eq_eq_eq_not,Bool.not_true,Bool.not_false,Int.not_lt,Int.not_le,Nat.not_lt,Nat.not_le]); exact rfl)(hy:(G=false)=Y:=by(try simp only[decide_eq_true_eq,decide_eq_false_iff_not,Bool.or_eq_true,Bool.and_eq_true,Bool.or_eq_false_iff,Bool.and_eq_false_imp,Bool.not_eq_true',Bool.not_eq_false',beq_iff_eq,beq_eq_false_iff_ne,bne_iff_ne,bne_eq_false_iff_eq,ne_eq,Bool.not_eq_eq_eq_not,Bool.not_true,Bool.not_false,Int.not_lt,Int.not_le,Nat.not_lt,Nat.not_le]); exact rfl)(h1:A->X->G=true->(QB P c Q S)=Q1:=by intro f1 hZ hG; (try rewrite [hG]); (first | rewrite [(hZ:_=false)] | rewrite [(hZ:_=true)] | skip); (try simp(maxSteps:=2000000) (implicitDefEqProofs:=false) (disch:=first | omega | assumption | (simp only[List.length_cons,List.length_nil,Nat.zero_add,Nat.reduceAdd]; done) | (simp only[IntKind.wrap_i64]; omega) | (simp only[List.length_replicate,List.length_set,List.length_append,List.length_cons,List.length_nil,List.length_take,List.length_drop,List.length_map]<;>omega) | fail) only[go_sem,V.splice,V.mk,mkI,mkB,mkU,↓reduceIte,reduceCtorEq,Nat.reduceAdd,Nat.reduceLT,Nat.reduceLeDiff,Nat.reduceEqDiff,Nat.reduceMul,Nat.reduceSub,Nat.reduceBEq,Nat.reduceDiv,Nat.reducePow,Int.reduceToNat,Int.reduceLT,Int.reduceLE,Int.reduceNeg,Int.reduceAdd,Int.reduceSub,Int.reduceMul,Int.reduceEq,Int.reduceBEq,Int.reduceBNe,f1]); exact rfl)(h2:A->Y->G=false->(QB P d Q S)=Q2:=by intro f1 hZ hG; (try rewrite [hG]); (first | rewrite [(hZ:_=false)] | rewrite [(hZ:_=true)] | skip); (try simp(maxSteps:=2000000) (implicitDefEqProofs:=false) (disch:=first | omega | assumption | (simp only[List.length_cons,List.length_nil,Nat.zero_add,Nat.reduceAdd]; done) | (simp only[IntKind.wrap_i64]; omega) | (simp only[List.length_replicate,List.length_set,List.length_append,List.length_cons,List.length_nil,List.length_take,List.length_drop,List.length_map]<;>omega) | fail) only[go_sem,V.splice,V.mk,mkI,mkB,mkU,↓reduceIte,reduceCtorEq,Nat.reduceAdd,Nat.reduceLT,Nat.reduceLeDiff,Nat.reduceEqDiff,Nat.reduceMul,Nat.reduceSub,Nat.reduceBEq,Nat.reduceDiv,Nat.reducePow,Int.reduceToNat,Int.reduceLT,Int.reduceLE,Int.reduceNeg,Int.reduceAdd,Int.reduceSub,Int.reduceMul,Int.reduceEq,Int.reduceBEq,Int.reduceBNe,f1]); exact rfl):vbr P c d Q S G:=
 Qay (fun e=>by subst e; exact(h1 a (hx▸rfl) rfl).mpr (q1 (hx▸rfl))) (fun e=>by subst e; exact(h2 a (hy▸rfl) rfl).mpr (q2 (hy▸rfl)))
def vp{A Q:Prop}{g:FuncId}{args:List DV}{hp:Qa}{K:DV->Qa->Prop}{d:DV}(a:A)(c:VCalls P g args [] (Ret d))(q:Q)(ha:DV.nums.go (fun _=>false) args=true:=by rfl)(h:A->K d hp=Q:=by intro f1; (try simp(maxSteps:=2000000) (implicitDefEqProofs:=false) (disch:=first | omega | assumption | (simp only[List.length_cons,List.length_nil,Nat.zero_add,Nat.reduceAdd]; done) | (simp only[IntKind.wrap_i64]; omega) | (simp only[List.length_replicate,List.length_set,List.length_append,List.length_cons,List.length_nil,List.length_take,List.length_drop,List.length_map]<;>omega) | fail) only[go_sem,V.splice,V.mk,mkI,mkB,mkU,↓reduceIte,reduceCtorEq,Nat.reduceAdd,Nat.reduceLT,Nat.reduceLeDiff,Nat.reduceEqDiff,Nat.reduceMul,Nat.reduceSub,Nat.reduceBEq,Nat.reduceDiv,Nat.reducePow,Int.reduceToNat,Int.reduceLT,Int.reduceLE,Int.reduceNeg,Int.reduceAdd,Int.reduceSub,Int.reduceMul,Int.reduceEq,Int.reduceBEq,Int.reduceBNe,f1]); exact rfl):VCalls P g args hp K:=Qaa c ha ((h a).mpr q)
def vd{A Q:Prop}{g:FuncId}{args:List DV}{K:DV->Prop}{d:DV}(a:A)(c:VCalls P g args [] (Ret d))(q:Q)(ha:DV.nums.go (fun _=>false) args=true:=by rfl)(hd:d.nums (fun _=>false)=true:=by rfl)(h:A->K d=Q:=by intro f1; (try simp(maxSteps:=2000000) (implicitDefEqProofs:=false) (disch:=first | omega | assumption | (simp only[List.length_cons,List.length_nil,Nat.zero_add,Nat.reduceAdd]; done) | (simp only[IntKind.wrap_i64]; omega) | (simp only[List.length_replicate,List.length_set,List.length_append,List.length_cons,List.length_nil,List.length_take,List.length_drop,List.length_map]<;>omega) | fail) only[go_sem,V.splice,V.mk,mkI,mkB,mkU,↓reduceIte,reduceCtorEq,Nat.reduceAdd,Nat.reduceLT,Nat.reduceLeDiff,Nat.reduceEqDiff,Nat.reduceMul,Nat.reduceSub,Nat.reduceBEq,Nat.reduceDiv,Nat.reducePow,Int.reduceToNat,Int.reduceLT,Int.reduceLE,Int.reduceNeg,Int.reduceAdd,Int.reduceSub,Int.reduceMul,Int.reduceEq,Int.reduceBEq,Int.reduceBNe,f1]); exact rfl):vdc P g args K:=Qwz c ha hd ((h a).mpr q)
def vl{A Q:Prop}{g:FuncId}{args args0:List DV}{hp:Qa}{K:DV->Qa->Prop}{d:DV}(a:A)(c:VCalls P g args0 [] (Ret d))(q:Q)(ha:A->Qi (args.map (QmM hp))=some args0:=by intro f1; first | (simp(maxSteps:=2000000) (implicitDefEqProofs:=false) (disch:=first | omega | assumption | (simp only[List.length_cons,List.length_nil,Nat.zero_add,Nat.reduceAdd]; done) | (simp only[IntKind.wrap_i64]; omega) | (simp only[List.length_replicate,List.length_set,List.length_append,List.length_cons,List.length_nil,List.length_take,List.length_drop,List.length_map]<;>omega) | fail) only[go_sem,V.splice,V.mk,mkI,mkB,mkU,↓reduceIte,reduceCtorEq,Nat.reduceAdd,Nat.reduceLT,Nat.reduceLeDiff,Nat.reduceEqDiff,Nat.reduceMul,Nat.reduceSub,Nat.reduceBEq,Nat.reduceDiv,Nat.reducePow,Int.reduceToNat,Int.reduceLT,Int.reduceLE,Int.reduceNeg,Int.reduceAdd,Int.reduceSub,Int.reduceMul,Int.reduceEq,Int.reduceBEq,Int.reduceBNe,f1]<;>fail "no") | fail "no")(hf:d.flat=true:=by rfl)(h:A->K d hp=Q:=by intro f1; (try simp(maxSteps:=2000000) (implicitDefEqProofs:=false) (disch:=first | omega | assumption | (simp only[List.length_cons,List.length_nil,Nat.zero_add,Nat.reduceAdd]; done) | (simp only[IntKind.wrap_i64]; omega) | (simp only[List.length_replicate,List.length_set,List.length_append,List.length_cons,List.length_nil,List.length_take,List.length_drop,List.length_map]<;>omega) | fail) only[go_sem,V.splice,V.mk,mkI,mkB,mkU,↓reduceIte,reduceCtorEq,Nat.reduceAdd,Nat.reduceLT,Nat.reduceLeDiff,Nat.reduceEqDiff,Nat.reduceMul,Nat.reduceSub,Nat.reduceBEq,Nat.reduceDiv,Nat.reducePow,Int.reduceToNat,Int.reduceLT,Int.reduceLE,Int.reduceNeg,Int.reduceAdd,Int.reduceSub,Int.reduceMul,Int.reduceEq,Int.reduceBEq,Int.reduceBNe,f1]); exact rfl):VCalls P g args hp K:=QwE c (ha a) hf ((h a).mpr q)
def gc(keep:List Nat)(h1:S'.nt=S.nt:=by rfl)(h2:S'.base=S.base:=by rfl)(h3:keep.take S.base=JA S.base:=by rfl)(h4:keep.Nodup:=by decide)(h5:QFN keep S.hp keep S'.hp:=by(repeat' apply And.intro)<;>first | trivial | rfl | exact⟨_,rfl,rfl,rfl,.inl ⟨rfl,rfl⟩⟩ | exact⟨_,rfl,rfl,rfl,.inl ⟨Qs _ _ _,rfl⟩⟩ | exact⟨_,rfl,rfl,rfl,.inl ⟨QgA _ _,rfl⟩⟩ | exact⟨_,rfl,rfl,rfl,.inr ⟨rfl,rfl⟩⟩)(h6:QFE keep S.tm S'.tm:=by(repeat' apply And.intro)<;>first | trivial | rfl | exact⟨_,rfl,rfl,rfl,.inl ⟨rfl,rfl⟩⟩ | exact⟨_,rfl,rfl,rfl,.inl ⟨Qs _ _ _,rfl⟩⟩ | exact⟨_,rfl,rfl,rfl,.inl ⟨QgA _ _,rfl⟩⟩ | exact⟨_,rfl,rfl,rfl,.inr ⟨rfl,rfl⟩⟩):Qv6 S S':=QEP h1 h2 h3 h4 h5 h6
end Go.V
namespace Go.V
open Go
def QI{α:Type}(f:α->DV)(Q:α->Prop):DV->Qa->Prop:=fun r h'=>h'=[]/\r.nums (fun _=>false)=true/\∃ a,r=f a/\Q a
def Qp(c:VCalls P g args [] (QI f Q))(ha:DV.nums.go (fun _=>false) args=true)(h:∀ a,Q a->K (f a) hp):VCalls P g args hp K:=
 QwC (R:=fun r=>∃ a,r=f a/\Q a) c ha fun r ⟨a,e,q⟩=>e▸h a q
def QwD(c:VCalls P g args0 [] (QI f Q))(ha:Qi (args.map (QmM hp))=some args0)(hf:∀ a,(f a).flat=true)(h:∀ a,Q a->K (f a) hp):VCalls P g args hp K:=
 (VCalls.lendA (R:=fun r=>∃ a,r=f a/\Q a) ha (c.mono fun r h' e=>⟨e.1,by obtain⟨_,_,a,rfl,_⟩:=e; exact hf a,e.2.2⟩)).mono fun r h' e=>by obtain⟨rfl,a,rfl,q⟩:=e; exact h a q
def Qju(sel:List Nat)(args1:List DV)(h0:Qa)(c:VCalls P g args0 [] (QI f Q))(hh0:h0=sel.map fun k=>hp.getD k default)(hpl:Qhl hp sel)(hnd:sel.Nodup)(ha1:args1=args.map (DV.ren fun j=>sel.idxOf j))(ha:DV.nums.go sel.contains args=true)(hf:Qi (args1.map (QmM h0))=some args0)(h:∀ a,Q a->K (f a) (Qhx hp sel)):VCalls P g args hp K:=by
 subst hh0
 have c1:=VCalls.giveA (R:=fun r=>r.nums (fun _=>false)=true/\∃ a,r=f a/\Q a) hf (c.mono fun r h' e=>⟨e.1,e.2.1,e.2⟩)
 refine(VCalls.frame sel hnd (Qdn hpl) (Qdo hpl) c1 ha1 ha).mono ?_
 rintro r h2 ⟨r0,h',⟨rfl,hn,a,rfl,q⟩,_,rfl,rfl⟩
 rw[Qf9 fun k hk=>(QdT hpl k hk).1,QeR _ _ hn]
 exact h a q
attribute [go_sem] DV.ren DV.ren.go KP List.getD_cons_succ List.getD_cons_zero
def VCalls.S(c:VCalls P g args hp (QI f Q))(h:∀ a,Q a->R a):VCalls P g args hp (QI f R):=
 c.mono fun _ _ ⟨h1,h2,a,e,q⟩=>⟨h1,h2,a,e,h a q⟩
def VCalls.toS(c:VCalls P g args hp (Ret d))(a:α)(e:d=f a)(q:Q a):VCalls P g args hp (QI f Q):=
 c.mono fun _ _ ⟨h1,h2,h3⟩=>⟨h1,h2,a,h3.trans e,q⟩
def RelD.own_nil (h:RelD w β hp (.own k sz off 0) v):RelD w β hp (.pv (.sl [])) v:=by
 cases h with
 | own _ _ _ _ cap b C T m h1 h2 h3 h4 h5 h6 =>
   exact .pv _ _ (.sl [] (some ⟨b,off,none⟩) cap 0 (fun _ _=>undef) (JE _) h4 (by simp) (by intro ad e _; cases e; rfl) (by simp) (by simp))
 | own0 _ _ a h1 h2 h3 =>
   exact .pv _ _ (.sl [] a 0 0 (fun _ _=>undef) (JE _) (JE _) (by simp) (by intro ad e h; omega) (by simp) (by simp))
def ne1:DV->DV
 | .own _ _ _ 0=>.pv (.sl [])
 | d=>d
def Qud(h:0<n):ne1 (.own k sz off n)=.own k sz off n:=by cases n; omega; rfl
theorem QoO:ne1 (.own k sz off 0)=.pv (.sl []):=rfl
theorem QzG:ne1 (.pv p)=.pv p:=rfl
def RelD.ne1(h:RelD w β hp d v):RelD w β hp (V.ne1 d) v:=by
 unfold V.ne1
 split
 ·exact h.own_nil
 ·exact h
def DV.ne:DV->DV
 | .agg cs=>.agg (cs.map ne1)
 | d=>d
def RelD.ne (h:RelD w β hp d v):RelD w β hp d.ne v:=by
 cases h with
 | agg ds vs h1 h2 =>
   refine .agg _ vs (by rw[Jf]; exact h1) fun i d hd=>?_
   rw[Jd] at hd
   obtain⟨x,e1,e2⟩:=Qy hd
   subst e2
   exact(h2 i x e1).ne1
 | pv p v h=>exact .pv p v h
 | ptr k off b h hb=>exact .ptr k off b h hb
 | own k sz off len cap b C T m h hb h1 h2 h3 h4=>exact .own k sz off len cap b C T m h hb h1 h2 h3 h4
 | ownc k sz off len cap b o C T m h hb h1 h2 h3 h4 h5=>exact .ownc k sz off len cap b o C T m h hb h1 h2 h3 h4 h5
 | own0 k sz a h1 h2 h3=>exact .own0 k sz a h1 h2 h3
 | ip cs ad val h1 h2 h3=>exact .ip cs ad val h1 h2 h3
 | fn f ds es vs us h1 h2 h3 h4=>exact .fn f ds es vs us h1 h2 h3 h4
 | tup ds vs h1 h2=>exact .tup ds vs h1 h2
 | opt c d v h1 h2=>exact .opt c d v h1 h2
 | any v=>exact .any v
def VCalls.neA(c:VCalls P g (args.map DV.ne) hp R):VCalls P g args hp R:=
 ⟨fun w β vs hh ha=>c.run w β vs hh ⟨by rw [Jf]; exact ha.1,fun i d hd=>by
  rw[Jd] at hd
  obtain⟨x,h1,h2⟩:=Qy hd
  subst h2
  exact(ha.2 i x h1).ne⟩⟩
def nf(h:b=true):¬ b=false:=by simp[h]
def nt(h:b=false):¬ b=true:=by simp[h]
def Qbp{α:Type}{n m:Nat}{a b:Option α}(h:n<=m):(if n<=m then a else b)=a:=if_pos h
end Go.V
namespace Go.V
open Go
def QrK(P:Program)(rs:List ResultVar)(R:DV->Qa->Prop)(e:Exit)(S:St):Prop:=∃ S',SimLe S S'/\Qax P rs R e S'
def VWp.postG(h:VWp P c (QrK P rs R) S):VWp P c (Qax P rs R) S:=fun O β a w hs=>
 wp_mono (h O β a w hs) fun _ _ _ ⟨_,_,hs',S',hw,hq⟩=>let ⟨β2,h2⟩:=hw _ _ _ _ hs'; ⟨β2,S',h2,hq⟩
def QC(S':St)(hw:Qv6 S S')(h:Qax P rs R e S'):QrK P rs R e S:=⟨S',.weak hw,h⟩
def QkR(hf:P.funcs[g]?=some fn)(hb:fn.body=some c)(hname:(fn.name == "runtime.NumGoroutine")=false)(hn:args.length<=fn.ntmps)(hc:VWp P c (Qax P fn.results.toList R) ⟨fn.ntmps,h.length,QgM 0 args,h⟩):VCalls P g args h R:=by
 refine Qfx hf hb hname hn (fun e S hq=>?_) hc
 unfold Qax at hq
 split at hq
 ·split at hq
  ·rename_i d hd; exact⟨.inl rfl,d,hd,.inr hq⟩
  ·exact hq.elim
 ·split at hq
  ·rename_i d hd; exact⟨.inr rfl,d,hd,.inr hq⟩
  ·exact hq.elim
 ·exact hq.elim
def QO(hf:P.funcs[g]?=some fn)(hb:fn.body=some c)(hname:(fn.name == "runtime.NumGoroutine")=false)(hn:args.length<=fn.ntmps)(hc:QB P c (QrK P fn.results.toList R) ⟨fn.ntmps,h.length,QgM 0 args,h⟩):VCalls P g args h R:=
 QkR hf hb hname hn (Qv c _ _ hc).postG
def Qmx(ha:a<hp.length)(hb:b<hp.length)(hc:c<hp.length)(ab:a≠b)(ac:a≠c)(bc:b≠c)(A B C:Blk)(r:Qa):
 QX hp [a,b,c] (A::B::C::r)=((hp.set a (Qc4 (back [a,b,c] hp.length) A)).set b (Qc4 (back [a,b,c] hp.length) B)).set c (Qc4 (back [a,b,c] hp.length) C)++r.map (Qc4 (back [a,b,c] hp.length)):=by
 unfold QX
 congr 1
 apply Kd
 intro j
 have q1:(a==b)=false:=by simp[ab]
 have q2:(a==c)=false:=by simp[ac]
 have q3:(b==c)=false:=by simp[bc]
 rw[Jd]
 by_cases hj:j<hp.length
 ·rw [Kz hj,Jv]
  by_cases e1:a=j
  ·subst e1; simp[ha,ab,ac,ab.symm,ac.symm]
  by_cases e2:b=j
  ·subst e2; simp[hb,bc,bc.symm,ab.symm,q1,KP]
  by_cases e3:c=j
  ·subst e3; simp[hc,q2,q3,KP]
  rw[if_neg (by simp[Ne.symm e1,Ne.symm e2,Ne.symm e3]),JR,if_neg e3,JR,if_neg e2,JR,if_neg e1,Jl,Ja hj]; rfl
 ·rw [Jt (by simpa using Kr hj),Jt (by simpa using Kr hj)]
  rfl
end Go.V
namespace Go.V
open Go
end Go.V
namespace Go.V
abbrev wd(r:Option Nat):Fence:={ Fence.wide with round:=r }
def Qd7(h:Qo ev o=some (g,args)):∀ c,o≠.defer c:=by
 rintro c rfl
 simp[Qo] at h
def Qdm(h:vop P ev hp o=some r):∀ c,o≠.defer c:=by
 rintro c rfl
 simp[vop] at h
def Qi5 {rd:Option Nat} {n:Nat} {hp:Qa} {ev:Operand->DV} {a:Act} {o:Oper} (hev:∀ x,RelD w β hp (ev x) (a.eval x)) {g:FuncId} {args:List DV} (hc:Qo ev o.op = some (g,args)) {R:DV->Qa->Prop} (hh:HeapRel w β hp) (hcalls:VCalls P g args hp R) {next:Act->World->Prop} {Q:Exit->Act->World->Prop} (hn:∀ v r h' β' w',Evo w β hp w' β' h'->HeapRel w' β' h'->RelD w' β' h' r v->R r h'->next (a.put o.dst v) w'):o.wpIn (wd rd) n P a w next Q:=by
 have hnd:=Qd7 hc
 unfold Qo at hc
 split at hc
 ·rename_i c hop
  split at hc
  ·rename_i f hcal
   split at hc
   ·rename_i g' first cap hfn
    simp at hc
    obtain⟨rfl,rfl⟩:=hc
    have hf:=hev f
    rw[hfn] at hf
    generalize hv:a.eval f=fv at hf
    cases hf with
    | fn _ _ _ vs us l1 l2 r1 r2 =>
      have hrel:RelL w β hp (first++c.args.toList.map ev++cap) (vs++c.args.map a.eval++us):=Qbm (Qbm ⟨l1,r1⟩ (QeS hev c.args)) ⟨l2,r2⟩
      rcases hcalls.run w β (vs++c.args.map a.eval++us) hh (by simpa using hrel) with⟨fn,h1,h2,h3,h4⟩ | ⟨fn,v,w',h1,h2,h3,v',r,h',β',e,k1,k2,k3,k4⟩
      ·have hrun:(execOp a.eval o).run P w = .ok (.enter g' (vs ++ c.args.map a.eval ++ us)) w:=by
        simp[execOp,hop,resolve,hcal,hv,Deferred.ofValue,invoke,QdB h1 h2 h3]
       refine⟨fun _ _=>trivial,?_⟩
       rw[Oper.semAt_plain _ _ _ hnd,hrun,Oper.uponIn_enter]
       refine⟨fun h=>by simp[Fence.wide] at h,CallsIn.mono (F:=wd rd) (callsIn_wide.2 h4) ?_⟩
       rintro e w' ⟨v,r,h',β',rfl,k1,k2,k3,k4⟩
       exact hn v r h' β' w' k1 k2 k3 k4
      ·have hrun:(execOp a.eval o).run P w = .ok (.value v) w':=by
        rw[Array.append_assoc] at h3
        simp[execOp,hop,resolve,hcal,hv,Deferred.ofValue,invoke,h3]
       cases e
       refine⟨fun _ _=>trivial,?_⟩
       rw[Oper.semAt_plain _ _ _ hnd,hrun]
       exact hn v r h' β' w' k1 k2 k3 k4
   ·simp at hc
  ·simp at hc
 ·simp at hc
def Qdw{rd:Option Nat}{n:Nat}{hp hp':Qa}{o:Oper}{d:DV}(hnd:∀ c,o.op≠.defer c)(h:Qfq P w β hp (execOp a.eval o) d hp'){next:Act->World->Prop}{Q:Exit->Act->World->Prop}(hn:∀ v w' β',Evo w β hp w' β' hp'->HeapRel w' β' hp'->RelD w' β' hp' d v->next (a.put o.dst v) w'):o.wpIn (wd rd) n P a w next Q:=by
 obtain⟨v,w',β',h1,h2,h3,h4⟩:=h
 refine⟨fun _ _=>trivial,?_⟩
 rw[Oper.semAt_plain _ _ _ hnd]
 rcases h1 with h1 | ⟨h1,rfl⟩
 ·rw[h1]; exact hn v w' β' h2 h3 h4
 ·rw[h1]; exact hn undef w' β' h2 h3 h4
def QcR {rd:Option Nat} {n:Nat} {ops:Array Oper} {Q:Exit->Act->World->Prop} {K:St->Prop} {tail:List Nat} {T:Act->Prop} (hT:∀ o ∈ ops.toList,∀ (a:Act) (v:Value),T a->T (a.put o.dst v)) (hK:∀ β S a w,Sim O β S a w->T a->K S->wpOpsIn (wd rd) n P ops Q tail a w):∀ (rest:List Oper) (pre post:List Oper),ops.toList = pre ++ rest ++ post->∀ (β:Map) (S:St) (a:Act) (w:World),Sim O β S a w->T a->Qbi P ops.toList rest K S ->
 wpOpsIn (wd rd) n P ops Q (J0 pre.length rest.length++tail) a w
 | [],pre,post,_,β,S,a,w,hs,ht,h=>by
   simp only[Jg,K9,KO]
   exact hK β S a w hs ht h
 | o :: r,pre,post,hops,β,S,a,w,hs,ht,h=>by
   have hT0:=hT o (by rw[hops]; simp)
   have hidx:ops[pre.length]?=some o:=by
    have:ops.toList[pre.length]?=some o:=by rw[hops]; simp
    simpa using this
   have ih:=fun β S a w=>QcR (P:=P) (rd:=rd) (n:=n) (O:=O) hT hK r (pre++[o]) post (by rw[hops]; simp) β S a w
   simp only[Ji,List.length_singleton] at ih
   simp only[Jc,Ua,Kh,wpOpsIn,hidx]
   unfold Qbi at h
   obtain⟨hf,h⟩:=h
   split at h
   ·exact h.elim
   ·rename_i hg
    rw[QN (ops:=ops) hs hg,if_neg (by simp)]
    exact⟨fun _ _=>trivial,ih β _ _ _ (hs.skip (.tup [] #[] rfl (by simp)) hf) (hT0 a _ ht) h⟩
   ·rename_i hg
    rw[QN (ops:=ops) hs hg,if_pos rfl]
    have hev:∀ x,RelD w β S.hp (Qn true (S.ev x)) (a.eval x):=fun x=>Qab (hs.ev x) rfl
    split at h
    ·rename_i g args hc
     refine Qi5 hev hc hs.heap h (fun v r h' β' w' k1 k2 k3 k4=>?_)
     exact ih β' _ _ _ (hs.step k1 k2 (Qaj k3) hf) (hT0 a _ ht) k4
    ·split at h
     ·rename_i d hp' hv
      refine Qdw (Qdm hv) (Qa4 hs.heap hev (fun _=>rfl) hv) (fun v w' β' k1 k2 k3=>?_)
      exact ih β' _ _ _ (hs.step k1 k2 (Qaj k3) hf) (hT0 a _ ht) h
     ·exact h.elim
def QgR{rd:Option Nat}{n:Nat}{ops:Array Oper}{Q:Exit->Act->World->Prop}{K:St->Prop}(hK:∀ β S a w,Sim O β S a w->K S->Q .normal a w)(β:Map)(S:St)(a:Act)(w:World)(hs:Sim O β S a w)(h:Qbi P ops.toList ops.toList K S):
 wpOpsIn (wd rd) n P ops Q (JA ops.size) a w:=by
 have:=QcR (P:=P) (rd:=rd) (n:=n) (O:=O) (ops:=ops) (Q:=Q) (K:=K) (tail:=[]) (T:=fun _=>True) (fun _ _ _ _ _=>trivial) (fun β S a w hs _ hk=>hK β S a w hs hk) ops.toList [] [] (by simp) β S a w hs trivial h
 simpa [Kf] using this
def Qb1:Code->Bool
 | .skip | .exit _ | .ret=>true
 | .region _ _ d=>!d
 | .seq a b | .cond _ a b=>Qb1 a&&Qb1 b
 | .block _ c=>Qb1 c
 | _=>false
def QaS {rd:Option Nat} {n:Nat}:∀ (c:Code) (Q:Exit->St->Prop) (S:St),Qb1 c = true->QB P c Q S->∀ (O:Org) (β:Map) (a:Act) (w:World),Sim O β S a w->c.wpIn (wd rd) n P (QmJ O Q) a w
 | .skip,Q,S,_,h=>fun O β a w hs=>wpIn_skip ⟨β,S,hs,h⟩
 | .region id ops draw,Q,S,hp,h=>fun O β a w hs=>by
   unfold QB at h
   have hd:draw=false:=by simpa [Qb1] using hp
   subst hd
   simp only[Kb,if_false] at h
   have:=QgR (P:=P) (rd:=rd) (n:=n) (O:=O) (ops:=ops) (Q:=QmJ O Q) (K:=Q .normal) (fun β S a w hs hk=>⟨β,S,hs,hk⟩) β S a w hs h
   exact wpIn_region this
 | .seq x y,Q,S,hp,h=>fun O β a w hs=>by
   unfold QB at h
   simp only[Qb1,Jp] at hp
   have h1:=QaS (rd:=rd) (n:=n) x _ S hp.1 h O β a w hs
   refine wpIn_seq (wpIn_mono h1 fun e a' w' hq=>?_)
   obtain⟨β',S',hs',hq⟩:=hq
   cases e with
   | normal=>exact QaS y Q S' hp.2 hq O β' a' w' hs'
   | _=>exact⟨β',S',hs',hq⟩
 | .cond c x y,Q,S,hp,h=>fun O β a w hs=>by
   unfold QB at h
   simp only[Qb1,Jp] at hp
   split at h
   ·rename_i t ht
    have hc:=hs.ev c
    rw[ht] at hc
    refine wpIn_cond_split (Qk hc) (fun e=>?_) (fun e=>?_)
    ·exact QaS x Q S hp.1 (h.1 e) O β a w hs
    ·exact QaS y Q S hp.2 (h.2 e) O β a w hs
   ·exact h.elim
 | .block id c,Q,S,hp,h=>fun O β a w hs=>by
   unfold QB at h
   have h1:=QaS (rd:=rd) (n:=n) c _ S (by simpa [Qb1] using hp) h O β a w hs
   refine wpIn_block (wpIn_mono h1 fun e a' w' hq=>?_)
   obtain⟨β',S',hs',hq⟩:=hq
   cases e with
   | exit id' =>
     simp only[Qa8] at hq
     simp only[Exit.inBlock]
     split
     ·rename_i he; rw[if_pos he] at hq; exact⟨β',S',hs',hq⟩
     ·rename_i he; rw[if_neg he] at hq; exact⟨β',S',hs',hq⟩
   | _=>exact⟨β',S',hs',hq⟩
 | .exit id,Q,S,_,h=>fun O β a w hs=>wpIn_exit ⟨β,S,hs,h⟩
 | .ret,Q,S,_,h=>fun O β a w hs=>wpIn_ret ⟨β,S,hs,h⟩
 | .loop _,_,_,hp,_=>by simp[Qb1] at hp
 | .rangeFunc ..,_,_,hp,_=>by simp[Qb1] at hp
 | .scope _,_,_,hp,_=>by simp[Qb1] at hp
 | .label _,_,_,hp,_=>by simp[Qb1] at hp
 | .goto _,_,_,hp,_=>by simp[Qb1] at hp
 | .refuse _,_,_,hp,_=>by simp[Qb1] at hp
end Go.V
namespace Go.V
section
variable {P:Program} {ops:Array Oper} {T:Nat->St} {F:Nat->List Nat×Bool} {rd:Option Nat} {n:Nat}
theorem Qgd (h:Steps P ops T F) (hK:∀ β a w,Sim O β (T ops.size) a w->Q .normal a w):∀ (fuel:Nat) (listed:Array Bool) (a:Act) (w:World) (β:Map) (S:St),
 (JA ops.size).countP (fun i=>!listed.getD i false)<=fuel->Sim O β S a w->Inv O ops T F listed S->wpAnyIn (wd rd) n P .any ops Q fuel listed a w:=by
 have done : ∀ (listed:Array Bool) (a:Act) (w:World) (β:Map) (S:St),Region.ready .any ops listed = []->Sim O β S a w->Inv O ops T F listed S->Q .normal a w:=by
  intro listed a w β S hready hs hi
  have all:∀ i,i < ops.size->listed.getD i false = true:=by
   intro i
   induction i using KA with
   | _ i ih =>
     intro hlt
     cases hl:listed.getD i false with
     | true=>rfl
     | false =>
       have ho:ops[i]?=some ops[i]:=JD hlt
       have hmem:i∈Region.ready .any ops listed:=by
        rw[mem_ready]
        refine⟨?_,ops[i],ho,fun e he hb=>ih e.on ((Qbq h.ok ho).1 e he hb) (KQ ((Qbq h.ok ho).1 e he hb) hlt)⟩
        have hsz:i<listed.size:=by rw[hi.size]; exact hlt
        simpa [hsz] using hl
       rw[hready] at hmem
       cases hmem
  obtain⟨f1,f2,f3⟩:=QcI h ops.size (Jm _)
  have lt_of:∀ i t,wT ops i t->i<ops.size:=fun i t ⟨o,ho,_⟩=>(Je.1 ho).1
  refine hK β a w (QzU (S:=S) (hi.nt.trans f1.symm) (hi.base.trans f2.symm) ?_ hs (fun t=>?_))
  ·apply Kd
   intro k
   obtain⟨m,hm,e,_,h2⟩:=hi.hp k
   rw[e]
   exact(Qe8 h ops.size hm (Jm _) (fun i h3 h4 hw=>by have:=h2 i h3 h4 hw; rw[all i h4] at this; cases this)).symm
  ·obtain ⟨m,hm,e,_,h2⟩:=hi.tm t
   rw[e]
   exact(QeF h ops.size hm (Jm _) (fun i h3 h4 hw=>by have:=h2 i h3 hw; rw[all i h4] at this; cases this)).symm
 intro fuel
 induction fuel with
 | zero =>
   intro listed a w β S hc hs hi
   have hready:Region.ready .any ops listed=[]:=by
    apply J8.2
    intro j hj
    obtain⟨h0,o,ho,_⟩:=mem_ready.1 hj
    have hlt:j<ops.size:=(Je.1 ho).1
    have:0<(JA ops.size).countP (fun i=>!listed.getD i false):=by
     rw[List.countP_pos_iff]
     refine⟨j,JS.2 hlt,?_⟩
     have hsz:j<listed.size:=by rw[hi.size]; exact hlt
     simp[hsz] at h0 |-
     exact h0
    omega
   exact⟨hready,done listed a w β S hready hs hi⟩
 | succ fuel ih =>
   intro listed a w β S hc hs hi
   refine⟨fun hready=>done listed a w β S hready hs hi,fun j hj=>?_⟩
   obtain⟨h0,oj,hoj,hr⟩:=mem_ready.1 hj
   have hlt:j<ops.size:=(Je.1 hoj).1
   have hsz:j<listed.size:=by rw[hi.size]; exact hlt
   have hun:listed.getD j false=false:=by simp[hsz] at h0 |-; exact h0
   obtain⟨o',ho',hstep,_⟩:=h.step j hlt
   rw[hoj] at ho'
   simp at ho'
   subst ho'
   have htm:∀ t∈oj.looksAt ops,V.look S.tm t=V.look (T j).tm t:=fun t ht=>(QuB h hi hoj hun hr (.inl ht)).1
   have heff:=QeI hstep
   obtain⟨hf,G,hg,hcase⟩:=hstep
   obtain⟨f1,f2,f3⟩:=QcI h j (by omega)
   have hf':S.fits oj.dst=true:=by
    unfold St.fits at hf |-
    rw[hi.nt,<- f1]; exact hf
   have hg':QD ops.toList S oj=some G:=by rw[Qbx htm]; exact hg
   have hw:=QN (ops:=ops) hs hg'
   have hevS:∀ x∈oj.op.operands.toList,Qn G (S.ev x)=Qn G ((T j).ev x):=fun x hx=>by rw[Qip htm x hx]
   have hev:G=true->∀ x,RelD w β S.hp (Qn G (S.ev x)) (a.eval x):=fun hG x=>Qab (hs.ev x) hG
   have hcnt:(JA ops.size).countP (fun i=>!(listed.setIfInBounds j true).getD i false)<=fuel:=by
    have:(JA ops.size).countP (fun i=>!(listed.setIfInBounds j true).getD i false)<(JA ops.size).countP (fun i=>!listed.getD i false):=by
     refine Qfj (JS.2 hlt) (by rw[hun]; rfl) (by simp[hsz]) (fun i hp=>?_)
     by_cases hij:i=j
     ·rw[hij,hun]; rfl
     ·rw[getD_set_ne false (Ne.symm hij)] at hp; exact hp
    omega
   unfold wpOpIn
   simp only[hoj,hw]
   -- what stands QX this operation
   have next:∀ (β1:Map) (a1:Act) (w1:World) (S1:St),Sim O β1 S1 a1 w1->S1.nt=S.nt->S1.base=S.base->S1.hp.length=S.hp.length->(∀ t,oj.dst≠some t->V.look S1.tm t=V.look S.tm t)->(∀ t,oj.dst=some t->V.look S1.tm t=V.look (T (j+1)).tm t) ->
    (∀ k,¬ wB F j k->S1.hp[k]?=S.hp[k]?)->(∀ k,wB F j k->S1.hp[k]?=(T (j+1)).hp[k]?)->wpAnyIn (wd rd) n P .any ops Q fuel (listed.setIfInBounds j true) a1 w1:=
    fun β1 a1 w1 S1 k0 k1 k2 k3 k4 k5 k6 k7=>ih _ a1 w1 β1 S1 hcnt k0 (QgG h hi hoj hun hr k1 k2 k3 k4 k5 k6 k7)
   have putlook:∀ (S0:St) (d:DV) t,oj.dst=some t->V.look (S0.put oj.dst d).tm t=d:=fun S0 d t ht=>by rw[ht]; simp[St.put,V.look]
   rcases hcase with⟨g,args,d,hc,hcalls,ha,hd,hT,hF⟩ | ⟨d,hp',hc,hv,hk,hT,hF⟩ | ⟨rfl,hT,hF⟩
   ·have nb:∀ k,¬ wB F j k:=fun k hk=>by have:=hk.1; rw [hF] at this; cases this
    have fin:∀ (β1:Map) (a1:Act) (w1:World),Sim O β1 (S.put oj.dst (Qc0 oj.guard G d)) a1 w1->wpAnyIn (wd rd) n P .any ops Q fuel (listed.setIfInBounds j true) a1 w1:=fun β1 a1 w1 k0=>
     next β1 a1 w1 _ k0 (St.put_nt ..) (St.put_base ..) (by rw[St.put_hp]) (fun t ht=>St.put_look _ _ _ t ht) (fun t ht=>by rw[hT,putlook _ _ t ht,putlook _ _ t ht]) (fun k _=>by rw[St.put_hp]) (fun k hk=>absurd hk (nb k))
    cases hG:G with
    | true =>
      subst hG
      rw[if_pos rfl]
      have hc':Qo (fun x=>Qn true (S.ev x)) oj.op=some (g,args):=by rw[QhN hevS]; exact hc
      refine(Qi5 (hev rfl) hc' hs.heap ((VCalls.pure ((hcalls rfl).mono fun r h' ⟨e1,e2⟩=>⟨e1,by rw[e2]; exact hd,e2⟩) ha).mono fun r h' hh=>hh) (fun v r h' β' w' k1 k2 k3 k4=>?_))
      obtain⟨rfl,rfl⟩:=k4
      refine fin β' _ _ (hs.step k1 k2 (d:=Qc0 oj.guard true r) ?_ hf')
      cases oj.guard with
      | none=>exact k3
      | some _=>exact .opt true r v (fun _=>k3) (by simp)
    | false =>
      subst hG
      rw[if_neg (by simp)]
      refine⟨fun _ _=>trivial,?_⟩
      refine fin β _ _ (hs.skip (d:=Qc0 oj.guard false d) ?_ hf')
      cases hgd:oj.guard with
      | none=>simp[QD,hgd] at hg
      | some _=>exact .opt false d undef (by simp) (fun _=>rfl)
   ·have hfoot:∀ k ∈ (Qco (fun x=>Qn G ((T j).ev x)) oj.op).1,S.hp[k]? = (T j).hp[k]?:=fun k hk'=>by
     rw[<- hF] at hk'
     exact(Ql6 h hi hoj hun hr hk').1
    have hcong:vop P (fun x=>Qn G (S.ev x)) S.hp oj.op=vop P (fun x=>Qn G ((T j).ev x)) S.hp oj.op:=QgU hk hevS
    cases hG:G with
    | true =>
      subst hG
      rw[if_pos rfl]
      simp only[cond_true] at hT
      have hdr:∀ {β':Map} {h':Qa} {w':World} {v:Value},RelD w' β' h' d v->RelD w' β' h' (Qc0 oj.guard true d) v:=fun {β' h' w' v} k3=>by
       cases oj.guard with
       | none=>exact k3
       | some _=>exact .opt true d v (fun _=>k3) (by simp)
      rcases Qda (hp':=S.hp) hk hfoot hv with⟨w0,e1,e2⟩ | ⟨w1,k0,cs,e0,e1,e2⟩
      ·rw [<- hcong] at e2
       subst e1
       have nb:∀ k,¬ wB F j k:=fun k hk=>by have:=hk.1; rw[hF,w0] at this; cases this
       refine(Qdw (Qdm e2) (Qa4 hs.heap (hev rfl) (fun _=>rfl) e2) (fun v w' β' k1 k2 k3=>?_))
       exact next β' _ _ _ (hs.step k1 k2 (hdr k3) hf') (St.put_nt ..) (St.put_base ..) (by rw[St.put_hp]) (fun t ht=>St.put_look _ _ _ t ht) (fun t ht=>by rw[hT,putlook _ _ t ht,putlook _ _ t ht])
        (fun k _=>by rw[St.put_hp]) (fun k hk=>absurd hk (nb k))
      ·rw [<- hcong] at e2
       subst e1
       refine(Qdw (Qdm e2) (Qa4 hs.heap (hev rfl) (fun _=>rfl) e2) (fun v w' β' k1 k2 k3=>?_))
       have hwk:∀ k,wB F j k ↔ k=k0:=fun k=>by unfold wB; rw[hF,w1,e0]; simp
       refine next β' _ _ _ (hs.step k1 k2 (hdr k3) hf') (St.put_nt ..) (St.put_base ..) (by rw[St.put_hp]; show(Ql S.hp k0 cs).length=_; unfold Ql; split<;>simp) (fun t ht=>St.put_look _ _ _ t ht) (fun t ht=>by rw[hT,putlook _ _ t ht,putlook _ _ t ht]) (fun k hk=>?_) (fun k hk=>?_)
       ·rw [St.put_hp]
        show(Ql S.hp k0 cs)[k]?=_
        have hne:k0≠k:=fun he=>hk ((hwk k).2 he.symm)
        unfold Ql
        split
        ·rw[J1 hne]
        ·rfl
       ·rw [(hwk k).1 hk,hT,St.put_hp,St.put_hp]
        show(Ql S.hp k0 cs)[k0]?=(Ql (T j).hp k0 cs)[k0]?
        have hsame:S.hp[k0]?=(T j).hp[k0]?:=hfoot k0 (by rw[e0]; simp)
        unfold Ql
        rw[hsame]
        cases hB:(T j).hp[k0]? with
        | none=>simp only; rw[hsame]
        | some B =>
          have l1:k0<(T j).hp.length:=(Jb.1 hB).1
          have l2:k0<S.hp.length:=(Jb.1 (hsame.trans hB)).1
          simp only
          rw[Ka l1,Ka l2]
    | false =>
      subst hG
      rw[if_neg (by simp)]
      refine⟨fun _ _=>trivial,?_⟩
      simp only[cond_false] at hT
      refine next β _ _ (S.put oj.dst (Qc0 oj.guard false d)) (hs.skip (d:=Qc0 oj.guard false d) ?_ hf') (St.put_nt ..) (St.put_base ..) (by rw[St.put_hp]) (fun t ht=>St.put_look _ _ _ t ht) (fun t ht=>by rw[hT,putlook _ _ t ht,putlook _ _ t ht]) (fun k _=>by rw[St.put_hp]) (fun k hk=>?_)
      ·cases hgd:oj.guard with
       | none=>simp[QD,hgd] at hg
       | some _=>exact .opt false d undef (by simp) (fun _=>rfl)
      ·rw [hT,St.put_hp,St.put_hp]
       exact(Ql6 h hi hoj hun hr hk.2).1
   ·have nb:∀ k,¬ wB F j k:=fun k hk=>by have:=hk.1; rw [hF] at this; cases this
    rw[if_neg (by simp)]
    refine⟨fun _ _=>trivial,?_⟩
    exact next β _ _ _ (hs.skip (.tup [] #[] rfl (by simp)) hf') (St.put_nt ..) (St.put_base ..) (by rw[St.put_hp]) (fun t ht=>St.put_look _ _ _ t ht) (fun t ht=>by rw[hT,putlook _ _ t ht,putlook _ _ t ht]) (fun k _=>by rw[St.put_hp]) (fun k hk=>absurd hk (nb k))
end
def QDA {rd:Option Nat} {n:Nat} {id:Nat} {ops:Array Oper} {Q:Exit->St->Prop} (hm:P.follows .mixedOrders = true) (hB:Qfi ops = true) (h:vdr P ops.toList ops.toList [] (Q .normal) S):∀ (O:Org) (β:Map) (a:Act) (w:World),Sim O β S a w->(Code.region id ops true).wpIn (wd rd) n P (QmJ O Q) a w:=by
 intro O β a w hs
 obtain⟨T,F,_,h2,h3,h4⟩:=Qdc ops.toList [] [] S rfl rfl h
 simp only[Jg] at h2
 have hsteps:Steps P ops T F:=⟨fun j hj=>by
  obtain⟨o,e1,e2,e3⟩:=h4 j (JE _) (by simpa using hj)
  exact⟨o,by simpa using e1,e2,e3⟩,hB⟩
 have hs':Sim O β (T 0) a { w with drawn:=w.drawn+1 }:=by
  rw[h2]
  have e:Evo w β S.hp w.drew β S.hp:=Qbw w β S.hp
  exact⟨hs.defers,hs.size,fun t=>(hs.tm t).mono e,hs.heap.drew,hs.evo.trans e,hs.base⟩
 refine wpIn_region_any hm (Qgd (O:=O) (Q:=QmJ O Q) hsteps (fun β a w hk=>⟨β,_,hk,by simpa using h3⟩) ops.size (Jq ops.size false) a _ β (T 0) ?_ hs' ?_)
 ·have:=Ko (p:=fun i=>!(Jq ops.size false).getD i false) (l:=JA ops.size)
  simpa using this
 ·have hfalse:∀ i,(Jq ops.size false).getD i false = false:=fun i=>by
   by_cases hi:i<ops.size
   ·simp[hi]
   ·simp[hi]
  refine⟨by simp,rfl,rfl,rfl,fun i o _ hl=>?_,fun t=>⟨0,JE _,rfl,fun i hi=>absurd hi (Kk _),fun i _ _=>hfalse i⟩,fun k=>⟨0,JE _,rfl,fun i hi=>absurd hi (Kk _),fun i _ _ _=>hfalse i⟩⟩
  rw[hfalse] at hl
  cases hl
inductive CutD (K:Nat) (ops0:Array Oper):Code->Code->Prop
 | skip:CutD K ops0 .skip .skip
 | exit (id:Nat) (h:(id==K)=false):CutD K ops0 (.exit id) (.exit id)
 | ret:CutD K ops0 .ret .ret
 | region (id:Nat) (ops:Array Oper):CutD K ops0 (.region id ops false) (.region id ops false)
 | draw (id:Nat):CutD K ops0 (.seq (.region id ops0 true) .ret) (.exit K)
 | seq {a a' b b':Code} (h:CutD K ops0 a a') (h':CutD K ops0 b b'):CutD K ops0 (.seq a b) (.seq a' b')
 | cond (c:Operand) {a a' b b':Code} (h:CutD K ops0 a a') (h':CutD K ops0 b b'):CutD K ops0 (.cond c a b) (.cond c a' b')
 | block (id:Nat) (hid:(id==K)=false) {a a':Code} (h:CutD K ops0 a a'):CutD K ops0 (.block id a) (.block id a')
def QkO {rd:Option Nat} {n K:Nat} {ops0:Array Oper} (hm:P.follows .mixedOrders = true) (hB:Qfi ops0 = true) {c c':Code} (hc:CutD K ops0 c c'):∀ (Q' Q:Exit->St->Prop),(∀ S,Q' (.exit K) S->vdr P ops0.toList ops0.toList [] (Q .ret) S)->(∀ e S,e ≠ .exit K->Q' e S->Q e S) ->
 ∀ (S:St),QB P c' Q' S->∀ (O:Org) (β:Map) (a:Act) (w:World),Sim O β S a w->c.wpIn (wd rd) n P (QmJ O Q) a w:=by
 induction hc with
 | skip=>intro Q' Q hK hQ S h O β a w hs; exact wpIn_skip ⟨β,S,hs,hQ _ _ (by simp) h⟩
 | exit id hid=>intro Q' Q hK hQ S h O β a w hs; exact wpIn_exit ⟨β,S,hs,hQ _ _ (by simpa using hid) h⟩
 | ret=>intro Q' Q hK hQ S h O β a w hs; exact wpIn_ret ⟨β,S,hs,hQ _ _ (by simp) h⟩
 | region id ops =>
   intro Q' Q hK hQ S h O β a w hs
   unfold QB at h
   simp only[Kb,if_false] at h
   exact wpIn_region (QgR (P:=P) (rd:=rd) (n:=n) (O:=O) (ops:=ops) (Q:=QmJ O Q) (K:=Q' .normal) (fun β S a w hs hk=>⟨β,S,hs,hQ _ _ (by simp) hk⟩) β S a w hs h)
 | draw id =>
   intro Q' Q hK hQ S h O β a w hs
   refine wpIn_seq (wpIn_mono (QDA (Q:=fun e S=>e=.normal/\Q .ret S) hm hB ?_ O β a w hs) ?_)
   ·have:=hK S h
    have e:(fun S=>Exit.normal=Exit.normal/\Q Exit.ret S)=Q .ret:=by funext S; simp
    rw[e]; exact this
   ·rintro e a' w' ⟨β',S',hs',rfl,q⟩
    exact wpIn_ret ⟨β',S',hs',q⟩
 | seq h h' ih ih' =>
   rename_i x x' y y'
   intro Q' Q hK hQ S hv O β a w hs
   unfold QB at hv
   refine wpIn_seq (wpIn_mono (ih (QaF Q' (QB P y' Q')) (QaF Q (QB P y' Q')) hK (fun e S he hq=>?_) S hv O β a w hs) fun e a' w' hq=>?_)
   ·cases e with
    | normal=>exact hq
    | _=>exact hQ _ _ he hq
   ·obtain ⟨β',S',hs',hq⟩:=hq
    cases e with
    | normal=>exact ih' Q' Q hK hQ S' hq O β' a' w' hs'
    | _=>exact⟨β',S',hs',hq⟩
 | cond c h h' ih ih' =>
   intro Q' Q hK hQ S hv O β a w hs
   unfold QB at hv
   split at hv
   ·rename_i t ht
    have hc:=hs.ev c
    rw[ht] at hc
    refine wpIn_cond_split (Qk hc) (fun e=>?_) (fun e=>?_)
    ·exact ih Q' Q hK hQ S (hv.1 e) O β a w hs
    ·exact ih' Q' Q hK hQ S (hv.2 e) O β a w hs
   ·exact hv.elim
 | block id hid h ih =>
   intro Q' Q hK hQ S hv O β a w hs
   unfold QB at hv
   have hne:K≠id:=fun e=>by subst e; simp at hid
   refine wpIn_block (wpIn_mono (ih (Qa8 id Q') (Qa8 id Q) (fun S hq=>?_) (fun e S he hq=>?_) S hv O β a w hs) fun e a' w' hq=>?_)
   ·simp only [Qa8,if_neg hne] at hq
    exact hK S hq
   ·cases e with
    | exit id' =>
      simp only[Qa8] at hq |-
      split
      ·rename_i he'; rw[if_pos he'] at hq; exact hQ _ _ (by simp) hq
      ·rename_i he'; rw[if_neg he'] at hq; exact hQ _ _ he hq
    | _=>exact hQ _ _ (by simp) hq
   ·obtain ⟨β',S',hs',hq⟩:=hq
    cases e with
    | exit id' =>
      simp only[Qa8] at hq
      simp only[Exit.inBlock]
      split
      ·rename_i he; rw[if_pos he] at hq; exact⟨β',S',hs',hq⟩
      ·rename_i he; rw[if_neg he] at hq; exact⟨β',S',hs',hq⟩
    | _=>exact⟨β',S',hs',hq⟩
end Go.V
namespace Go.V
open Go.RowKit (Below)
structure Up(w w':World):Prop where
 size:w.heap.size<=w'.heap.size
 same:∀ (b:Nat) (C:Array Value) (T:TypeId) (m:Nat×Nat),w.heap[b]?=some (.cells C T m)->w'.heap[b]?=some (.cells C T m)
def Up.cell(u:Up w w')(h:w.cell? a=some v):w'.cell? a=some v:=by
 obtain⟨o,ho,hc⟩:=cells_of_cell h
 cases o with
 | cells C T m=>exact(World.cell?_of_block (by rw[u.same _ _ _ _ ho,ho])).trans h
 | _=>simp[Obj.isCells] at hc
def RelP.up (h:RelP w im p v) (u:Up w w'):RelP w' im p v:=by
 induction h with
 | lit v h=>exact .lit v h
 | str l=>exact .str l
 | sl xs a cap sz val h1 h2 h3 h4 h5 _ ih =>
   refine .sl xs a cap sz val h1 h2 h3 h4 (fun i j c d hc hd=>?_) (fun i j c d hc hd=>ih i j c d hc hd)
   obtain⟨ad,e,hb,hn,hcell⟩:=h5 i j c d hc hd
   exact⟨ad,e,Jj hb u.size,hn,u.cell hcell⟩
 | slc xs a sz val h2 h3 h4 h5 _ ih =>
   refine .slc xs a sz val h2 h3 h4 (fun i j c d hc hd=>?_) (fun i j c d hc hd=>ih i j c d hc hd)
   obtain⟨ad,e,hb,hn,hcell⟩:=h5 i j c d hc hd
   exact⟨ad,e,Jj hb u.size,hn,u.cell hcell⟩
def RelD.up (h:RelD w β hp d v) (u:Up w w'):RelD w' β hp d v:=by
 induction h with
 | pv p v h=>exact .pv p v (h.up u)
 | ptr k off b h hb=>exact .ptr k off b h hb
 | own k sz off len cap b C T m h hb h1 h2 h3 h4=>exact .own k sz off len cap b C T m h hb h1 h2 (u.same _ _ _ _ h3) h4
 | ownc k sz off len cap b o C T m h hb h1 h2 h3 h4 h5=>exact .ownc k sz off len cap b o C T m h hb h1 h2 (u.same _ _ _ _ h3) h4 h5
 | own0 k sz a h hb ha=>exact .own0 k sz a h hb ha
 | ip cs ad val h1 h2 h3 =>
   exact .ip cs ad val h1 (fun j d hd=>⟨Jj (h2 j d hd).1 u.size,(h2 j d hd).2.1,u.cell (h2 j d hd).2.2⟩) (fun j d hd=>(h3 j d hd).up u)
 | agg ds vs h _ ih=>exact .agg ds vs h ih
 | fn f ds es vs us h h' _ _ ih ih'=>exact .fn f ds es vs us h h' ih ih'
 | tup ds vs h _ ih=>exact .tup ds vs h ih
 | opt c d v _ hf ih=>exact .opt c d v ih hf
 | any v=>exact .any v
def HeapRel.up(h:HeapRel w β hp)(u:Up w w'):HeapRel w' β hp:=by
 refine⟨fun k B b hk hl hb=>?_,h.none,h.inj,h.avoid,fun b hb=>Jj (h.bound b hb) u.size⟩
 obtain⟨C,c1,c2,c3⟩:=h.blk k B b hk hl hb
 exact⟨C,u.same _ _ _ _ c1,c2,fun i d hd=>⟨(c3 i d hd).1,(c3 i d hd).2.up u⟩⟩
def Up.grown(hg:w.grownBy w' row)(hr:∀ r,row=some r->∃ o:Obj,w.heap[r]?=some o/\o.isCells=false):Up w w':=by
 refine⟨hg.size,fun b C T m hb=>?_⟩
 rw[grownBy_keeps_cells hg hr hb rfl]; exact hb
def Evo.grown(e:Evo w β hp W β' hp')(hg:W.grownBy W' row)(hr:∀ r,row=some r->w.heap.size<=r/\∃ o:Obj,W.heap[r]?=some o/\o.isCells=false):Evo w β hp W' β' hp':=by
 have u:=Up.grown hg (fun r h=>(hr r h).2)
 refine⟨hg.os.trans e.os,hg.tape.trans e.tape,hg.output.trans e.output,KR e.size hg.size,e.len,e.beta,fun b hb hl=>?_,fun b C T m hb=>?_,e.im,e.X⟩
 ·rw [hg.block b (Jj hb e.size) (fun h=>by have:=(hr b h.symm).1; omega)]
  exact e.same b hb hl
 ·obtain ⟨C',m',h1,h2⟩:=e.shape b C T m hb
  exact⟨C',m',u.same _ _ _ _ h1,h2⟩
def Evo.others(hh:HeapRel w β hp)(e:Evo w β hp W β' hp'):KeepsOthers w W:=by
 refine⟨e.size,fun k o hk ho=>?_⟩
 rw[e.same k (Je.1 hk).1 ?_]
 ·exact hk
 rintro⟨j,B,h1,h2,h3⟩
 obtain⟨C,c1,_⟩:=hh.blk j B k h1 h2 h3
 rw[hk] at c1
 cases c1
 cases ho
def Qhk{hp0 hp:Qa}(h:hp.take hp0.length=hp0){k:Nat}{B:Blk}(hk:hp0[k]?=some B):hp[k]?=some B:=by
 rw[<- h,List.getElem?_take] at hk
 split at hk
 ·exact hk
 ·cases hk
def HeapRel.pre(hh:HeapRel w β hp)(h:hp.take hp0.length=hp0)(hr:∀ (k:Nat) (B:Blk),hp0[k]?=some B->DV.refs.go hp0.length B.cells=true):HeapRel w β hp0:=by
 have lv:∀ b,live β hp0 b->live β hp b:=fun b ⟨j,B,h1,h2,h3⟩=>⟨j,B,Qhk h h1,h2,h3⟩
 refine⟨fun k B b hk hl hb=>?_,fun k B hk=>hh.none k B (Qhk h hk),fun j k B B' b hj hk=>hh.inj j k B B' b (Qhk h hj) (Qhk h hk),fun k B b hk=>hh.avoid k B b (Qhk h hk),hh.bound⟩
 obtain⟨C,c1,c2,c3⟩:=hh.blk k B b (Qhk h hk) hl hb
 refine⟨C,c1,c2,fun i d hd=>⟨(c3 i d hd).1,(c3 i d hd).2.drop (DV.refs_go (hr k B hk) i d hd) (fun b hb=>hb.imp id (lv b))⟩⟩
def Evo.pre(e:Evo w β hp0 W β' hp)(hl:hp0.length<=hp1.length)(h:hp.take hp1.length=hp1):Evo w β hp0 W β' hp1:=
 ⟨e.os,e.tape,e.output,e.size,hl,e.beta,e.same,e.shape,fun b hb ⟨j,B,h1,h2,h3⟩=>e.im b hb ⟨j,B,Qhk h h1,h2,h3⟩,e.X⟩
def Lies(w:World)(β:Map)(hp:Qa)(W:World):Prop:=∃ β1,HeapRel W β1 hp/\Evo w β hp W β1 hp
def Lies.grown(h:Lies w β hp W)(hg:W.grownBy W' row)(hr:∀ r,row=some r->w.heap.size<=r/\∃ o:Obj,W.heap[r]?=some o/\o.isCells=false):Lies w β hp W':=by
 obtain⟨β1,h1,h2⟩:=h
 exact⟨β1,h1.up (Up.grown hg fun r h=>(hr r h).2),h2.grown hg hr⟩
def BodyOf(P:Program)(body:Code)(B:(Exit->St->Prop)->St->Prop):Prop:=
 ∀ (rd:Option Nat) (n:Nat) (Q:Exit->St->Prop) (S:St),B Q S->∀ (O:Org) (β:Map) (a:Act) (w:World),Sim O β S a w->body.wpIn (wd rd) n P (QmJ O Q) a w
def BodyOf.plain(h:Qb1 body=true):BodyOf P body (QB P body):=fun _ _ Q S hv O β a w hs=>QaS body Q S h hv O β a w hs
def QF0(P:Program)(K:Nat)(ops0:Array Oper)(body':Code)(Q:Exit->St->Prop)(S:St):Prop:=
 QB P body' (fun e S'=>match e with | .exit k=>if k=K then vdr P ops0.toList ops0.toList [] (Q .ret) S' else Q (.exit k) S' | e=>Q e S') S
def BodyOf.cut (hm:P.follows .mixedOrders = true) (hB:Qfi ops0 = true) (hc:CutD K ops0 body body'):BodyOf P body (QF0 P K ops0 body'):=fun _ _ Q S hv O β a w hs=>
 QkO hm hB hc _ Q (fun S h=>by simpa using h) (fun e S he h=>by
  cases e with
  | exit k =>
    dsimp only at h
    rw[if_neg (fun e=>he (by rw[e]))] at h
    exact h
  | _=>exact h) S hv O β a w hs
end Go.V
namespace Go.V
structure SimE(O:Org)(β:Map)(S:St)(a:Act)(w:World):Prop where
 size:a.tmps.size=S.nt
 tm:∀ t,RelD w β S.hp (look S.tm t) (a.tmps.getD t undef)
 heap:HeapRel w β S.hp
 evo:Evo O.w O.β O.hp w β S.hp
 mark:a.defers=O.ds\/∃ D,a.defers={ target:=.collected D,args:=#[] }::O.ds/\w.heap[D]?=some (.deferred (some []))/\O.w.heap.size<=D
def St.reb(S:St):St:={ S with base:=S.hp.length }
def SimE.reb(h:SimE O β S a w):Sim ⟨w,β,S.hp,a.defers⟩ β S.reb a w:=⟨rfl,h.size,h.tm,h.heap,Evo.refl _ _ _,rfl⟩
def SimE.on(h:SimE O β S a w)(h':Sim ⟨w,β,S.hp,a.defers⟩ β' S' a' w'):SimE O β' S' a' w':=by
 refine⟨h'.size,h'.tm,h'.heap,h.evo.trans h'.evo,?_⟩
 rw[h'.defers]
 rcases h.mark with e | ⟨D,e,hD,hl⟩
 ·exact .inl e
 ·exact .inr ⟨D,e,(Evo.others h.heap h'.evo).same D _ hD rfl,hl⟩
def QEB(O:Org)(Q:Exit->St->Prop):Exit->Act->World->Prop:=fun e a w=>∃ β S,SimE O β S a w/\Q e S
def VWpE(P:Program)(c:Code)(Q:Exit->St->Prop)(S:St):Prop:=∀ (O:Org) (β:Map) (a:Act) (w:World),SimE O β S a w->c.wp P (QEB O Q) a w
def VWp0(P:Program)(c:Code)(Q:Exit->St->Prop)(S:St):Prop:=∀ (O:Org) (β:Map) (a:Act) (w:World),SimE O β S a w->a.defers=O.ds->c.wp P (QEB O Q) a w
def VWpE.plain(h:QB P c Q S.reb):VWpE P c Q S:=fun O β a w hs=>
 wp_mono (Qv c Q _ h _ _ _ _ hs.reb) fun _ _ _ ⟨β',S',h',q⟩=>⟨β',S',hs.on h',q⟩
def VWp0.first(h:QB P x (QaF Q (VWp0 P y Q)) S.reb):VWp0 P (.seq x y) Q S:=fun O β a w hs hd=>by
 refine wp_seq (wp_mono (Qv x _ _ h _ _ _ _ hs.reb) fun e a' w' hq=>?_)
 obtain⟨β',S',h',q⟩:=hq
 cases e with
 | normal=>exact q O β' a' w' (hs.on h') (h'.defers.trans hd)
 | _=>exact⟨β',S',hs.on h',q⟩
def VWp0.then(h:VWp0 P x (QaF Q (VWpE P y Q)) S):VWp0 P (.seq x y) Q S:=fun O β a w hs hd=>by
 refine wp_seq (wp_mono (h O β a w hs hd) fun e a' w' hq=>?_)
 obtain⟨β',S',h',q⟩:=hq
 cases e with
 | normal=>exact q O β' a' w' h'
 | _=>exact⟨β',S',h',q⟩
def VWp0.block {id:Nat} (h:VWp0 P c (Qa8 id Q) S):VWp0 P (.block id c) Q S:=fun O β a w hs hd=>by
 refine wp_block (wp_mono (h O β a w hs hd) fun e a' w' hq=>?_)
 obtain⟨β',S',hs',hq⟩:=hq
 cases e with
 | exit id' =>
   simp only[Qa8] at hq
   simp only[Exit.inBlock]
   split
   ·rename_i he; rw[if_pos he] at hq; exact⟨β',S',hs',hq⟩
   ·rename_i he; rw[if_neg he] at hq; exact⟨β',S',hs',hq⟩
 | _=>exact⟨β',S',hs',hq⟩
def Qm3 (hf:P.funcs[g]? = some fn) (hb:fn.body = some c) (hname:(fn.name == "runtime.NumGoroutine") = false) (hn:args.length<=fn.ntmps) (hc:VWp0 P c (Qfu P fn.results.toList h.length R) ⟨fn.ntmps,h.length,QgM 0 args,h⟩):VCalls P g args h R:=by
 refine⟨fun w β vs hh ha=>.inl ⟨fn,hf,hname,by rw[hb]; rfl,?_⟩⟩
 refine callsIn_wide.1 (callsIn_of_wp_marks (n:=1) hf hb trivial (wpIn_wide.2 ?_))
 have hsz:vs.size=args.length:=ha.1.symm
 have hs:SimE ⟨w,β,h,[]⟩ β ⟨fn.ntmps,h.length,QgM 0 args,h⟩ { tmps:=vs ++ Jq (fn.ntmps - vs.size) undef,defers:=[] } w:=by
  refine⟨by simp; omega,fun t=>?_,hh,Evo.refl w β h,.inl rfl⟩
  rw[Qht,if_pos (JE _),Ui]
  cases ht:args[t]? with
  | none=>exact .any _
  | some d =>
    have hlt:t<vs.size:=by rw[hsz]; exact(Jb.1 ht).1
    have e:(vs++Jq (fn.ntmps-vs.size) undef).getD t undef=vs.getD t undef:=by
     simp only[JC]; rw[KB hlt]
    show RelD w β h d ((vs++Jq (fn.ntmps-vs.size) undef).getD t undef)
    rw[e]
    exact ha.2 t d ht
 refine wp_mono (hc _ β _ w hs rfl) fun e a' w' hq=>?_
 obtain⟨β',S',hs',hq⟩:=hq
 -- the end,in a world that is the same but for blocks without cells
 have fin:∀ W',Up w' W'->Evo w β h W' β' S'.hp->∀ d,QM P S' fn.results.toList=some d->Qv7 h.length S'.hp d R->∃ v,(results fn a'.tmps).run P W'=.ok v W'/\∃ v' r h' β'',Ending.returned v=.returned v'/\Evo w β h W' β'' h'/\HeapRel W' β'' h'/\RelD W' β'' h' r v'/\R r h':=by
  intro W' u ev d hr hend
  have hsim:Sim ⟨W',β',S'.hp,a'.defers⟩ β' S'.reb a' W':=⟨rfl,hs'.size,fun t=>(hs'.tm t).up u,hs'.heap.up u,Evo.refl _ _ _,rfl⟩
  obtain⟨v,r1,r2⟩:=Qci (P:=P) (fn:=fn) (d:=d) hsim (by
   have e:Qkv P S'.reb=Qkv P S':=by funext r; cases r<;>rfl
   unfold QM at hr |-
   rw[e]; exact hr)
  obtain⟨d',hp',k1,k2,k3,k4,k5⟩:=QdG (hs'.heap.up u) ev.len r2 hend
  exact⟨v,r1,v,d',hp',β',rfl,⟨ev.os,ev.tape,ev.output,ev.size,by omega,ev.beta,ev.same,ev.shape,fun b hb hl=>ev.im b hb (k5 b hl),ev.X⟩,k3,k2,k1⟩
 have key:(∃ d,QM P S' fn.results.toList=some d/\Qv7 h.length S'.hp d R)->LeavesInM Fence.wide 1 P fn a'.tmps (fun e w'=>∃ v r h' β',e=.returned v/\Evo w β h w' β' h'/\HeapRel w' β' h'/\RelD w' β' h' r v/\R r h') a'.defers .returning w':=by
  rintro⟨d,hr,hend⟩
  rcases hs'.mark with e0 | ⟨D,e0,hD,hl⟩
  ·rw [e0]
   exact fin w' ⟨Jm _,fun _ _ _ _ h=>h⟩ hs'.evo d hr hend
  ·rw [e0]
   refine⟨by simp,.inl ⟨D,_,rfl,run_takeDeferred hD,?_⟩⟩
   have hg:=grownBy_putObj' w' D (.deferred none)
   have hg2:∀ r,some D=some r->w.heap.size<=r/\∃ o:Obj,w'.heap[r]?=some o/\o.isCells=false:=fun r e=>by cases e; exact⟨hl,_,hD,rfl⟩
   exact fin _ (Up.grown hg fun r h=>(hg2 r h).2) (hs'.evo.grown hg hg2) d hr hend
 unfold Qfu at hq
 cases e with
 | normal =>
   dsimp only at hq
   split at hq
   ·rename_i d hd; exact key ⟨d,hd,hq⟩
   ·exact hq.elim
 | ret =>
   dsimp only at hq
   split at hq
   ·rename_i d hd; exact key ⟨d,hd,hq⟩
   ·exact hq.elim
 | _=>exact hq.elim
end Go.V
namespace Go.V
def Stable(G:World->World->Map->Qa->Prop):Prop:=∀ (w0 w:World) (β:Map) (hp:Qa) (w':World) (β':Map) (hp':Qa),HeapRel w β hp->Evo w β hp w' β' hp'->G w0 w β hp->G w0 w' β' hp'
def Stable.and(h:Stable G)(h':Stable G'):Stable (fun w0 w β hp=>G w0 w β hp/\G' w0 w β hp):=fun w0 w β hp w' β' hp' hh e q=>⟨h w0 w β hp w' β' hp' hh e q.1,h' w0 w β hp w' β' hp' hh e q.2⟩
structure SimG(G:World->World->Map->Qa->Prop)(O:Org)(β:Map)(S:St)(a:Act)(w:World):Prop where
 defers:a.defers=O.ds
 size:a.tmps.size=S.nt
 tm:∀ t,RelD w β S.hp (look S.tm t) (a.tmps.getD t undef)
 heap:HeapRel w β S.hp
 evo:Evo O.w O.β O.hp w β S.hp
 g:G O.w w β S.hp
def SimG.reb(h:SimG G O β S a w):Sim ⟨w,β,S.hp,a.defers⟩ β S.reb a w:=⟨rfl,h.size,h.tm,h.heap,Evo.refl _ _ _,rfl⟩
def SimG.on(hG:Stable G)(h:SimG G O β S a w)(h':Sim ⟨w,β,S.hp,a.defers⟩ β' S' a' w'):SimG G O β' S' a' w':=
 ⟨h'.defers.trans h.defers,h'.size,h'.tm,h'.heap,h.evo.trans h'.evo,hG _ _ _ _ _ _ _ h.heap h'.evo h.g⟩
variable {P:Program} {γ:Type} {Γ:γ->World->World->Map->Qa->Prop}
def Quk(Γ:γ->World->World->Map->Qa->Prop)(O:Org)(Q:Exit->St->γ->Prop):Exit->Act->World->Prop:=fun e a w=>∃ β S g,SimG (Γ g) O β S a w/\Q e S g
def VWpG(P:Program)(Γ:γ->World->World->Map->Qa->Prop)(c:Code)(Q:Exit->St->γ->Prop)(S:St)(g:γ):Prop:=∀ (O:Org) (β:Map) (a:Act) (w:World),SimG (Γ g) O β S a w->c.wp P (Quk Γ O Q) a w
def QcA(Q:Exit->St->γ->Prop)(K:St->γ->Prop):Exit->St->γ->Prop
 | .normal,S,g=>K S g
 | e,S,g=>Q e S g
def QeX(id:Nat)(Q:Exit->St->γ->Prop):Exit->St->γ->Prop
 | .exit id',S,g=>if id'=id then Q .normal S g else Q (.exit id') S g
 | e,S,g=>Q e S g
theorem VWpG.plain(hΓ:∀ g,Stable (Γ g))(h:QB P c (fun e S'=>Q e S' g) S.reb):VWpG P Γ c Q S g:=fun _ _ _ _ hs=>
 wp_mono (Qv c _ _ h _ _ _ _ hs.reb) fun _ _ _ ⟨β',S',h',q⟩=>⟨β',S',g,hs.on (hΓ g) h',q⟩
theorem VWpG.seq(h:VWpG P Γ x (QcA Q (VWpG P Γ y Q)) S g):VWpG P Γ (.seq x y) Q S g:=fun O β a w hs=>by
 refine wp_seq (wp_mono (h O β a w hs) fun e a' w' hq=>?_)
 obtain⟨β',S',g',h',q⟩:=hq
 cases e with
 | normal=>exact q O β' a' w' h'
 | _=>exact⟨β',S',g',h',q⟩
theorem VWpG.first(hΓ:∀ g,Stable (Γ g))(h:QB P x (fun e S'=>QcA Q (VWpG P Γ y Q) e S' g) S.reb):VWpG P Γ (.seq x y) Q S g:=(VWpG.plain hΓ h).seq
theorem VWpG.block {id:Nat} (h:VWpG P Γ c (QeX id Q) S g):VWpG P Γ (.block id c) Q S g:=fun O β a w hs=>by
 refine wp_block (wp_mono (h O β a w hs) fun e a' w' hq=>?_)
 obtain⟨β',S',g',hs',hq⟩:=hq
 cases e with
 | exit id' =>
   simp only[QeX] at hq
   simp only[Exit.inBlock]
   split
   ·rename_i he; rw[if_pos he] at hq; exact⟨β',S',g',hs',hq⟩
   ·rename_i he; rw[if_neg he] at hq; exact⟨β',S',g',hs',hq⟩
 | _=>exact⟨β',S',g',hs',hq⟩
theorem VWpG.cond(ht:S.ev c=.pv (.lit (.bool t)))(h1:t=true->VWpG P Γ x Q S g)(h2:t=false->VWpG P Γ y Q S g):VWpG P Γ (.cond c x y) Q S g:=fun O β a w hs=>by
 have hc:=hs.reb.ev c
 have e:S.reb.ev c=S.ev c:=by cases c<;>rfl
 rw[e,ht] at hc
 exact wp_cond_split (Qk hc) (fun q=>h1 q O β a w hs) (fun q=>h2 q O β a w hs)
def WeakG(Γ:γ->World->World->Map->Qa->Prop)(S:St)(g:γ)(S':St)(g':γ):Prop:=∀ (O:Org) (β:Map) (a:Act) (w:World),SimG (Γ g) O β S a w->∃ β',SimG (Γ g') O β' S' a w
theorem VWpG.loop {c:Code} {Q:Exit->St->γ->Prop} {g:γ} {ι:Type} (I:ι->St) (J:ι->γ) (μ:ι->Nat) (i₀:ι) (h₀:WeakG Γ S g (I i₀) (J i₀)) (round:∀ i,VWpG P Γ c (QcA Q fun S' g'=>∃ j,μ j < μ i/\WeakG Γ S' g' (I j) (J j)) (I i) (J i)):VWpG P Γ (.loop c) Q S g:=by
 intro O β a w hs b k cs
 have key:∀ n β i a w,μ i = n->SimG (Γ (J i)) O β (I i) a w ->
  ∃ e a' w',Quk Γ O Q e a' w'/\Arrives P (lone (b.at a (.code c::.inLoop c::k)) cs w) b k cs e a' w':=by
  intro n
  induction n using KA with
  | _ n ih =>
    intro β i a w hn hs
    obtain⟨e,a₁,w₁,hq,harr⟩:=round i O β a w hs b (.inLoop c::k) cs
    obtain⟨β₁,S₁,g₁,hs₁,hq⟩:=hq
    cases e with
    | normal =>
      obtain⟨j,hlt,hle⟩:=hq
      obtain⟨β₂,hs₂⟩:=hle _ _ _ _ hs₁
      obtain⟨e₂,a₂,w₂,hq₂,harr₂⟩:=ih (μ j) (hn▸hlt) β₂ j a₁ w₁ rfl hs₂
      exact⟨e₂,a₂,w₂,hq₂,.of_steps (Steps.trans harr (.one step_inLoop)) harr₂⟩
    | exit id=>exact⟨_,a₁,w₁,⟨β₁,S₁,g₁,hs₁,hq⟩,.pass (x:=.inLoop c) rfl (fun _ _=>.inl (by simp)) harr⟩
    | goto l=>exact⟨_,a₁,w₁,⟨β₁,S₁,g₁,hs₁,hq⟩,.pass (x:=.inLoop c) rfl (fun _ _=>.inl (by simp)) harr⟩
    | ret=>exact⟨_,a₁,w₁,⟨β₁,S₁,g₁,hs₁,hq⟩,.pass (x:=.inLoop c) rfl (fun _ _=>.inl (by simp)) harr⟩
    | panic ch=>exact⟨_,a₁,w₁,⟨β₁,S₁,g₁,hs₁,hq⟩,.pass (x:=.inLoop c) rfl (fun _ _=>.inl (by simp)) harr⟩
    | outgrown=>exact⟨_,a₁,w₁,⟨β₁,S₁,g₁,hs₁,hq⟩,.pass (x:=.inLoop c) rfl (fun _ _=>.inl (by simp)) harr⟩
 obtain⟨β₀,hs₀⟩:=h₀ _ _ _ _ hs
 obtain⟨e,a',w',hq,harr⟩:=key _ β₀ i₀ a w rfl hs₀
 exact⟨e,a',w',hq,.of_steps (.one step_loop) harr⟩
theorem WeakG.of(hw:∀ w0 w β hp β' hp',Γ g w0 w β hp->Γ g w0 w β' hp')(h:Qv6 S.reb { S' with base:=S.hp.length }):WeakG Γ S g S' g:=fun O β a w hs=>by
 obtain⟨β',h'⟩:=hs.reb.weak h
 exact⟨β',h'.defers.trans hs.defers,h'.size,h'.tm,h'.heap,hs.evo.trans h'.evo,hw _ _ _ _ _ _ hs.g⟩
end Go.V
namespace Go.V
open Go.MapKept
end Go.V
namespace Go.V
variable {P:Program} {γ:Type} {Γ:γ->World->World->Map->Qa->Prop}
def OpG (P:Program) (Γ:γ->World->World->Map->Qa->Prop) (ops:Array Oper) (o:Oper) (K:St->γ->Prop) (S:St) (g:γ):Prop :=
 ∀ (n:Nat) (Q:Exit->Act->World->Prop) (next:Act->World->Prop) (O:Org) (β:Map) (a:Act) (w:World),SimG (Γ g) O β S a w ->
   (∀ β' S' g' a' w',SimG (Γ g') O β' S' a' w'->K S' g'->next a' w') ->
   if Region.wanted o (yielded ops a.tmps)=true then o.wpIn (wd none) n P a w next Q else next (a.put o.dst undef) w
def Qby:List (List Oper×Option Oper)->List Oper
 | []=>[]
 | (A,none)::r=>A++Qby r
 | (A,some o)::r=>A++o::Qby r
def QAm(P:Program)(Γ:γ->World->World->Map->Qa->Prop)(ops:Array Oper):List (List Oper×Option Oper)->(St->γ->Prop)->St->γ->Prop
 | [],K,S,g=>K S g
 | (A,none)::r,K,S,g=>Qbi P ops.toList A (fun S1=>QAm P Γ ops r K S1 g) S.reb
 | (A,some o)::r,K,S,g=>Qbi P ops.toList A (fun S1=>OpG P Γ ops o (QAm P Γ ops r K) S1 g) S.reb
theorem Qfv (hΓ:∀ g,Stable (Γ g)) (hK:∀ β S g a w,SimG (Γ g) O β S a w->K S g->Q .normal a w):
 ∀ (ch:List (List Oper × Option Oper)) (pre:List Oper),ops.toList = pre ++ Qby ch->∀ (β:Map) (S:St) (g:γ) (a:Act) (w:World),SimG (Γ g) O β S a w->QAm P Γ ops ch K S g ->
   wpOpsIn (wd none) n P ops Q (J0 pre.length (Qby ch).length) a w
 | [],pre,_,β,S,g,a,w,hs,h=>by
   simp only[Qby,Jg,K9,wpOpsIn]
   exact hK β S g a w hs h
 | (A,none) :: r,pre,hops,β,S,g,a,w,hs,h=>by
   have e:J0 pre.length (Qby ((A,none)::r)).length=J0 pre.length A.length++J0 (pre++A).length (Qby r).length:=by
    simp only[Qby,Ji]
    rw[<- Ku]
   rw[e]
   refine QcR (P:=P) (rd:=none) (n:=n) (ops:=ops) (Q:=Q) (T:=fun _=>True) (fun _ _ _ _ _=>trivial) ?_ A pre (Qby r) (by rw[hops]; simp[Qby]) β S.reb a w hs.reb trivial h
   intro β1 S1 a1 w1 hs1 _ h1
   exact Qfv hΓ hK r (pre++A) (by rw[hops]; simp[Qby]) β1 S1 g a1 w1 (hs.on (hΓ g) hs1) h1
 | (A,some o) :: r,pre,hops,β,S,g,a,w,hs,h=>by
   have e:J0 pre.length (Qby ((A,some o)::r)).length=J0 pre.length A.length++((pre++A).length::J0 (pre++A++[o]).length (Qby r).length):=by
    simp only[Qby,Ji,Jc,Jg]
    rw[show(pre.length+A.length)::J0 (pre.length+A.length+(0+1)) (Qby r).length=J0 (pre.length+A.length) ((Qby r).length+1) by rw[Ua],<- Ku]
   rw[e]
   refine QcR (P:=P) (rd:=none) (n:=n) (ops:=ops) (Q:=Q) (T:=fun _=>True) (fun _ _ _ _ _=>trivial) ?_ A pre (o::Qby r) (by rw[hops]; simp[Qby]) β S.reb a w hs.reb trivial h
   intro β1 S1 a1 w1 hs1 _ h1
   have hidx:ops[(pre++A).length]?=some o:=by
    have:ops.toList[(pre++A).length]?=some o:=by rw[hops]; simp[Qby]
    simpa using this
   have:=h1 n Q (wpOpsIn (wd none) n P ops Q (J0 (pre++A++[o]).length (Qby r).length)) O β1 a1 w1 (hs.on (hΓ g) hs1) (fun β' S' g' a' w' hs' hk=>Qfv hΓ hK r (pre++A++[o]) (by rw[hops]; simp[Qby]) β' S' g' a' w' hs' hk)
   simp only[wpOpsIn,hidx]
   split
   ·rename_i hw; rw[if_pos hw] at this; exact this
   ·rename_i hw; rw[if_neg hw] at this; exact⟨fun _ _=>trivial,this⟩
theorem VWpG.region(hΓ:∀ g,Stable (Γ g)){id:Nat}(ch:List (List Oper×Option Oper))(hch:ops.toList=Qby ch)(h:QAm P Γ ops ch (Q .normal) S g):VWpG P Γ (.region id ops false) Q S g:=fun O β a w hs=>by
 rw[<- wpIn_wide (n:=10)]
 refine wpIn_region (F:=wd none) ?_
 have:=Qfv (n:=10) (P:=P) hΓ (Q:=Quk Γ O Q) (O:=O) (fun β S g a w h1 h2=>⟨β,S,g,h1,h2⟩) ch [] (by simpa using hch) β S g a w hs h
 rw[<- hch] at this
 simpa [Kf] using this
theorem SimG.put (h:SimG G O β S a w) (u:Up w w') (ev:Evo O.w O.β O.hp w' β S.hp) (hf:S.fits dst = true) (hd:RelD w' β S.hp d v) (h6:G' O.w w' β S.hp):SimG G' O β (S.put dst d) (a.put dst v) w':=by
 refine⟨by rw[QfG]; exact h.defers,?_,fun t=>?_,by rw[St.put_hp]; exact h.heap.up u,by rw[St.put_hp]; exact ev,by rw[St.put_hp]; exact h6⟩
 ·rw[QeT,St.put_nt]; exact h.size
 ·rw [St.put_hp]
  cases dst with
  | none=>exact(h.tm t).up u
  | some t0 =>
    have hlt:t0<a.tmps.size:=by rw[h.size]; simpa [St.fits] using hf
    simp only[St.put,look,Act.put]
    split
    ·rename_i e
     subst e
     simpa [JC,hlt] using hd
    ·rename_i e
     have:=(h.tm t).up u
     simpa [JC,Kv,e] using this
theorem Qey(hs:SimG G O β S a w)(hG:QD ops.toList S o=some b):Region.wanted o (yielded ops a.tmps)=b:=by
 refine QN (ops:=ops) hs.reb ?_
 rw[<- hG]; rfl
theorem QoK(hG:QD ops.toList S o=some false)(hf:S.fits o.dst=true)(hK:K (S.put o.dst (.tup [])) g):OpG P Γ ops o K S g:=fun n Q next O β a w hs hn=>by
 rw[Qey hs hG,if_neg (by simp)]
 exact hn β _ g _ _ (hs.put ⟨Jm _,fun _ _ _ _ h=>h⟩ hs.evo hf (.tup [] #[] rfl (by simp)) hs.g) hK
theorem QzT(hs:SimG G O β S a w)(x:Operand):RelD w β S.hp (Qn true (S.ev x)) (a.eval x):=by
 have e:S.reb.ev x=S.ev x:=by cases x<;>rfl
 exact Qab (e▸hs.reb.ev x) rfl
end Go.V
namespace Go.V
open Go.MapKept
structure EvoC(w:World)(β:Map)(hp:Qa)(w':World)(β':Map)(hp':Qa):Prop where
 size:w.heap.size<=w'.heap.size
 len:hp.length<=hp'.length
 beta:∀ k,k<hp.length->β'.f k=β.f k
 same:∀ (b:Nat) (C:Array Value) (T:TypeId) (m:Nat×Nat),w.heap[b]?=some (.cells C T m)->¬ live β hp b->w'.heap[b]?=w.heap[b]?
 shape:∀ (b:Nat) (C:Array Value) (T:TypeId) (m:Nat×Nat),w.heap[b]?=some (.cells C T m)->∃ C' m',w'.heap[b]?=some (.cells C' T m')/\C'.size=C.size
 im:∀ b,b<w.heap.size->live β' hp' b->live β hp b
 X:β'.X=β.X
def Evo.toC(e:Evo w β hp w' β' hp'):EvoC w β hp w' β' hp':=
 ⟨e.size,e.len,e.beta,fun b _ _ _ h hl=>e.same b (Je.1 h).1 hl,e.shape,e.im,e.X⟩
def EvoC.refl(w:World)(β:Map)(hp:Qa):EvoC w β hp w β hp:=(Evo.refl w β hp).toC
def Up.toC(u:Up w w')(β:Map)(hp:Qa):EvoC w β hp w' β hp:=
 ⟨u.size,Jm _,fun _ _=>rfl,fun b C T m h _=>by rw[u.same b C T m h,h],fun b C T m h=>⟨C,m,u.same b C T m h,rfl⟩,fun _ _ h=>h,rfl⟩
def EvoC.trans{w0 w1 w2:World}{β0 β1 β2:Map}{h0 h1 h2:Qa}(a:EvoC w0 β0 h0 w1 β1 h1)(b:EvoC w1 β1 h1 w2 β2 h2):EvoC w0 β0 h0 w2 β2 h2:=by
 refine⟨KR a.size b.size,KR a.len b.len,fun k hk=>by rw[b.beta k (Jj hk a.len),a.beta k hk],fun x C T m h hl=>?_,fun x C T m h=>?_,fun x hx h=>a.im x hx (b.im x (Jj hx a.size) h),b.X.trans a.X⟩
 ·have e1:=a.same x C T m h hl
  rw[b.same x C T m (e1.trans h) (fun h'=>hl (a.im x (Je.1 h).1 h')),e1]
 ·obtain ⟨C',m',h',e⟩:=a.shape x C T m h
  obtain⟨C'',m'',h'',e'⟩:=b.shape x C' T m' h'
  exact⟨C'',m'',h'',e'.trans e⟩
def QhM{w w':World}{a:Addr}(h:w.cell? a=some v)(hs:∀ (C:Array Value) (T:TypeId) (m:Nat×Nat),w.heap[a.block]?=some (.cells C T m)->w'.heap[a.block]?=w.heap[a.block]?):w'.cell? a=some v:=by
 obtain⟨o,ho,hc⟩:=cells_of_cell h
 cases o with
 | cells C T m=>rw[QdA (hs C T m ho)]; exact h
 | _=>simp[Obj.isCells] at hc
def RelP.monoC (h:RelP w im p v) (hsz:w.heap.size<=w'.heap.size) (hs:∀ (b:Nat) (C:Array Value) (T:TypeId) (m:Nat × Nat),w.heap[b]? = some (.cells C T m)->¬ im b->w'.heap[b]? = w.heap[b]?) (hi:∀ b,b < w.heap.size->im' b->im b):RelP w' im' p v:=by
 induction h with
 | lit v h=>exact .lit v h
 | str l=>exact .str l
 | sl xs a cap sz val h1 h2 h3 h4 h5 _ ih =>
   refine .sl xs a cap sz val h1 h2 h3 h4 (fun i j c d hc hd=>?_) (fun i j c d hc hd=>ih i j c d hc hd)
   obtain⟨ad,e,hb,hn,hcell⟩:=h5 i j c d hc hd
   exact⟨ad,e,Jj hb hsz,fun x=>hn (hi _ hb x),QhM hcell fun C T m h=>hs _ C T m h hn⟩
 | slc xs a sz val h2 h3 h4 h5 _ ih =>
   refine .slc xs a sz val h2 h3 h4 (fun i j c d hc hd=>?_) (fun i j c d hc hd=>ih i j c d hc hd)
   obtain⟨ad,e,hb,hn,hcell⟩:=h5 i j c d hc hd
   exact⟨ad,e,Jj hb hsz,fun x=>hn (hi _ hb x),QhM hcell fun C T m h=>hs _ C T m h hn⟩
def EvoC.img(e:EvoC w β hp w' β' hp'):∀ b,b<w.heap.size->img β' hp' b->img β hp b:=
 fun b h l=>l.imp (fun x=>by rw[<- e.X]; exact x) (e.im b h)
def RelD.monoC (h:RelD w β hp d v) (e:EvoC w β hp w' β' hp'):RelD w' β' hp' d v:=by
 have hs:∀ (b:Nat) (C:Array Value) (T:TypeId) (m:Nat×Nat),w.heap[b]?=some (.cells C T m)->¬ V.img β hp b->w'.heap[b]?=w.heap[b]?:=fun b C T m h n=>e.same b C T m h fun l=>n (.inr l)
 induction h with
 | pv p v h=>exact .pv p v (h.monoC e.size hs e.img)
 | ptr k off b h hb=>exact .ptr k off b (Jj h e.len) ((e.beta k h).trans hb)
 | own k sz off len cap b C T m h hb h1 h2 h3 h4 =>
   obtain⟨C',m',h3',hs⟩:=e.shape _ _ _ _ h3
   exact .own k sz off len cap b C' T m' (Jj h e.len) ((e.beta k h).trans hb) h1 h2 h3' (by rw[hs]; exact h4)
 | ownc k sz off len cap b o C T m h hb h1 h2 h3 h4 h5 =>
   obtain⟨C',m',h3',hs⟩:=e.shape _ _ _ _ h3
   exact .ownc k sz off len cap b o C' T m' (Jj h e.len) ((e.beta k h).trans hb) h1 h2 h3' (by rw[hs]; exact h4) h5
 | own0 k sz a h hb ha=>exact .own0 k sz a (Jj h e.len) ((e.beta k h).trans hb) ha
 | ip cs ad val h1 h2 h3 =>
   refine .ip cs ad val h1 (fun j d hd=>?_) (fun j d hd=>(h3 j d hd).monoC e.size hs e.img)
   obtain⟨a,b,c⟩:=h2 j d hd
   exact⟨Jj a e.size,fun x=>b (e.img _ a x),QhM c fun C T m h=>hs _ C T m h b⟩
 | agg ds vs h _ ih=>exact .agg ds vs h ih
 | fn f ds es vs us h h' _ _ ih ih'=>exact .fn f ds es vs us h h' ih ih'
 | tup ds vs h _ ih=>exact .tup ds vs h ih
 | opt c d v _ hf ih=>exact .opt c d v ih hf
 | any v=>exact .any v
abbrev QC4:=List (Value×DV)
abbrev MapsD:=List (Nat×QC4)
structure MapAt(w:World)(β:Map)(hp:Qa)(b:Nat)(L:QC4):Prop where
 at_:∃ es clock,w.heap[b]?=some (.map es clock)/\Stamped es clock/\es.toList.map (·.key)=L.map (·.1)/\∀ (i:Nat) (e:MapEntry) (p:Value×DV),es.toList[i]?=some e->L[i]?=some p->RelD w β hp p.2 e.val
def Qz3(g:MapsD)(w0 w:World)(β:Map)(hp:Qa):Prop:=(g.map (·.1)).Nodup/\∀ p∈g,w0.heap.size<=p.1/\MapAt w β hp p.1 p.2
abbrev Qkt:=World×Map×Qa
def MapsD.At(c:Qkt)(g:MapsD)(w0 w:World)(β:Map)(hp:Qa):Prop:=Qz3 g w0 w β hp/\EvoC c.1 c.2.1 c.2.2 w β hp
abbrev Qa1(c:Qkt):MapsD->World->World->Map->Qa->Prop:=fun g=>MapsD.At c g
def MapAt.go(h:MapAt w β hp b L)(e:EvoC w β hp w' β' hp')(hb:w'.heap[b]?=w.heap[b]?):MapAt w' β' hp' b L:=by
 obtain⟨es,clock,h1,h2,h3,h4⟩:=h.at_
 exact⟨es,clock,hb.trans h1,h2,h3,fun i e' p q1 q2=>(h4 i e' p q1 q2).monoC e⟩
def Qb(c:Qkt)(g:MapsD):Stable (Qa1 c g):=fun w0 w β hp w' β' hp' hh e h=>⟨⟨h.1.1,fun p hp=>by
 obtain⟨h1,h2⟩:=h.1.2 p hp
 obtain⟨es,clock,q,_⟩:=h2.at_
 exact⟨h1,h2.go e.toC ((Evo.others hh e).same _ _ q rfl |>.trans q.symm)⟩⟩,h.2.trans e.toC⟩
structure KeyT(P:Program)(kt:TypeId){κ:Type}[DecidableEq κ](enc:κ->Value):Prop where
 check:∀ (e:Bool) (w:World) (k:κ),(Instr.checkKey e 10000 kt (enc k)).run P w=.ok () w
 find:∀ (w:World) (k:κ) (l:List MapEntry) (ks:List κ),l.map (·.key)=ks.map enc->(Instr.findKey kt (enc k) l).run P w=.ok ((ks.findIdx? (fun x=>decide (x=k))).bind fun i=>(l[i]?).map fun e=>(i,e.val)) w
 stays:∀ (w:World) (k:κ),(Instr.keyThatStays (enc k) (enc k)).run P w=.ok (enc k) w
 inj:∀ a b,enc a=enc b->a=b
def QhG:∀ {l:List MapEntry} {ks:List Int} {i:Nat},l.map (·.key) = ks.map (fun x=>Value.int .i64 x)->Instr.findNow (.int q) (.int .i64 k) l i = some ((ks.findIdx? (fun x=>decide (x = k))).bind fun j=>(l[j]?).map fun e=>(i + j,e.val))
 | [],[],i,_=>rfl
 | [],_::_,_,h=>by simp at h
 | _::_,[],_,h=>by simp at h
 | e :: l,a :: ks,i,h=>by
   simp only[Jr,List.cons.injEq] at h
   have hs:Instr.sameNow (.int q) (.int .i64 k) e.key=some (k==a):=by rw[h.1]; simp[Instr.sameNow]
   by_cases hka:a=k
   ·subst hka
    simp[Instr.findNow,hs,J6]
   ·have hb:(k == a) = false:=by simpa using fun h=>hka h.symm
    have:=QhG (q:=q) (k:=k) (i:=i+1) h.2
    simp only[Instr.findNow,hs,hb,this,J6,decide_eq_false hka]
    cases hf:ks.findIdx? (fun x=>decide (x=k)) with
    | none=>simp[hf]
    | some j=>simp[hf]; congr 1; funext x; simp; omega
def Qym(hk:P.underlying kt=some (.int .i64)):KeyT P kt (fun x:Int=>Value.int .i64 x):=
 ⟨fun e w k=>run_checkKey hk (by simp[IsKey]) e 9999,fun w k l ks h=>by rw[run_findKey hk (QhG (i:=0) h)]; simp,fun w k=>by simp[Instr.keyThatStays,Instr.sameBits],fun a b h=>by simpa using h⟩
section
variable {κ:Type} [DecidableEq κ]
def Qbg(enc:κ->Value)(L:List (κ×DV)):QC4:=L.map fun p=>(enc p.1,p.2)
def Qds:List (κ×DV)->κ->Option DV
 | [],_=>none
 | (a,x)::r,k=>if a=k then some x else Qds r k
def Qgl:List (κ×DV)->κ->DV->List (κ×DV)
 | [],k,v=>[(k,v)]
 | (a,x)::r,k,v=>if a=k then (a,v)::r else (a,x)::Qgl r k v
theorem Qo1 (L:List (κ × DV)) (k:κ) (v:DV) (k':κ):Qds (Qgl L k v) k' = if k = k' then some v else Qds L k':=by
 induction L with
 | nil=>simp[Qgl,Qds]
 | cons p r ih =>
   obtain⟨a,x⟩:=p
   by_cases h:a=k
   ·subst h
    simp only[Qgl,Qds,if_true]
    split<;>rfl
   ·simp only [Qgl,if_neg h,Qds,ih]
    by_cases h':a=k'
    ·subst h'
     rw[if_pos rfl,if_neg (Ne.symm h),if_pos rfl]
    ·rw[if_neg h',if_neg h']
theorem Qyy (L:List (κ × DV)) (k:κ):Qds L k = ((L.map (·.1)).findIdx? (fun x=>decide (x = k))).bind fun i=>(L[i]?).map (·.2):=by
 induction L with
 | nil=>rfl
 | cons p r ih =>
   obtain⟨a,x⟩:=p
   by_cases h:a=k
   ·subst h; simp[Qds,J6]
   ·simp only [Qds,if_neg h,ih,Jr,J6,decide_eq_false h]
    cases hf:(r.map (·.1)).findIdx? (fun x=>decide (x=k))<;>simp[hf]
theorem Qlv (L:List (κ × DV)) (k:κ) (v:DV) (h:(L.map (·.1)).findIdx? (fun x=>decide (x = k)) = none):Qgl L k v = L ++ [(k,v)]/\∀ p ∈ L,p.1 ≠ k:=by
 induction L with
 | nil=>simp[Qgl]
 | cons p r ih =>
   obtain⟨a,x⟩:=p
   simp only[Jr,J6] at h
   by_cases ha:a=k
   ·simp[ha] at h
   ·simp only [decide_eq_false ha,Kb,if_false,Option.map_eq_none_iff] at h
    obtain⟨h1,h2⟩:=ih h
    exact⟨by simp[Qgl,ha,h1],by simp[ha]; intro a' b hm; exact h2 (a',b) hm⟩
theorem QtO (L:List (κ × DV)) (k:κ) (v:DV) (h:(L.map (·.1)).findIdx? (fun x=>decide (x = k)) = some i):Qgl L k v = L.set i (k,v)/\∃ d,L[i]? = some (k,d):=by
 induction L generalizing i with
 | nil=>simp at h
 | cons p r ih =>
   obtain⟨a,x⟩:=p
   simp only[Jr,J6] at h
   by_cases ha:a=k
   ·simp [ha] at h
    subst h
    simp[Qgl,ha]
   ·simp only [decide_eq_false ha,Kb,if_false,Option.map_eq_some_iff] at h
    obtain⟨j,hj,rfl⟩:=h
    obtain⟨h1,d,h2⟩:=ih hj
    exact⟨by simp[Qgl,ha,h1],d,by simpa using h2⟩
end
end Go.V
namespace Go.V
open Go.MapKept
variable {P:Program} {γ:Type} {Γ:γ->World->World->Map->Qa->Prop}
def Qku (P:Program) (Γ:γ->World->World->Map->Qa->Prop) (o:Oper) (K:St->γ->Prop) (S:St) (g:γ):Prop :=
 ∀ (O:Org) (β:Map) (a:Act) (w:World),SimG (Γ g) O β S a w ->
   ∃ v w',((execOp a.eval o).run P w=.ok (.value v) w'\/((execOp a.eval o).run P w=.ok .skip w'/\v=undef))/\∃ β' S' g',SimG (Γ g') O β' S' (a.put o.dst v) w'/\K S' g'
theorem Qbu(hG:QD ops.toList S o=some true)(nd:∀ c,o.op≠.defer c)(h:Qku P Γ o K S g):OpG P Γ ops o K S g:=fun n Q next O β a w hs hn=>by
 rw[Qey hs hG,if_pos rfl]
 obtain⟨v,w',h1,β',S',g',h2,h3⟩:=h O β a w hs
 refine⟨fun _ _=>trivial,?_⟩
 rw[Oper.semAt_plain _ _ _ nd]
 rcases h1 with h1 | ⟨h1,rfl⟩
 ·rw[h1]; exact hn _ _ _ _ _ h2 h3
 ·rw[h1]; exact hn _ _ _ _ _ h2 h3
theorem QeJ [DecidableEq κ] (ht:P.underlying t = some (.map kt et)) (hk:KeyT P kt enc) (hz:∀ w,(zeroValue et).run P w = .ok zv w) (hzr:∀ w β hp,RelD w β hp z zv) (h:MapAt w β hp b (Qbg enc L)) (k:κ) (c:Bool):
 ∃ v,(Instr.lookup t (.map (some b)) (enc k) c).run P w=.ok (if c then .tuple #[v,.bool (Qds L k).isSome] else v) w/\RelD w β hp ((Qds L k).getD z) v:=by
 obtain⟨es,clock,h1,h2,h3,h4⟩:=h.at_
 have hf:=hk.find w k es.toList (L.map (·.1)) (by rw[h3]; simp[Qbg])
 have hlen:es.toList.length=L.length:=by have:=congrArg Kx h3; simpa [Qbg] using this
 rw[Qyy]
 unfold Instr.lookup
 simp only[Sem.run_bind,run_underlying ht,Result.andThen,Go.MapKept.run_getObj_map h1,Sem.run_pure,hk.check,hf]
 cases hi:(L.map (·.1)).findIdx? (fun x=>decide (x=k)) with
 | none=>exact⟨zv,by cases c<;>simp[hz,Result.andThen],by simpa using hzr w β hp⟩
 | some i =>
   have hlt:i<L.length:=by
    have:=(List.findIdx?_eq_some_iff_findIdx_eq.1 hi).1
    simpa using this
   have e1:L[i]?=some L[i]:=Ja hlt
   have e2:es.toList[i]?=some es.toList[i]:=Ja (by omega)
   have hr:=h4 i _ (enc L[i].1,L[i].2) e2 (by simp[Qbg,e1])
   refine⟨es.toList[i].val,?_,?_⟩
   ·simp only [Kt,e2,Jv,e1]
    cases c<;>simp
   ·simp only[Kt,e1,Jv,Ks]; exact hr
theorem QcL(hop:o.op=.makeMap t none)(hf:S.fits o.dst=true)(hK:∀ b,(∀ p∈g,p.1≠b)->K (S.put o.dst (Qc0 o.guard true (.pv (.lit (.map (some b)))))) ((b,[])::g)):Qku P (Qa1 c) o K S g:=fun O β a w hs=>by
 have hgr:=World.grownBy_alloc w (.map #[] 0) none
 have e1:=Go.MapKept.heap_alloc w (.map #[] 0)
 have hu:Up w (w.alloc (.map #[] 0)):=Up.grown hgr (by simp)
 have fresh:∀ p∈g,p.1≠w.heap.size:=fun p hp he=>by
  obtain⟨es,clock,q,_⟩:=(hs.g.1.2 p hp).2.at_
  rw[he] at q
  simp at q
 refine⟨.map (some w.heap.size),w.alloc (.map #[] 0),.inl ?_,β,_,_,hs.put hu (hs.evo.grown hgr (by simp)) hf (Qaj (.pv _ _ (.lit _ rfl))) ⟨⟨?_,?_⟩,hs.g.2.trans (hu.toC _ _)⟩,hK w.heap.size fresh⟩
 ·simp [execOp,hop]
  rfl
 ·rw [Jr,List.nodup_cons]
  refine⟨fun hm=>?_,hs.g.1.1⟩
  obtain⟨p,hp,he⟩:=J4.1 hm
  exact fresh p hp he
 ·intro p hp
  rcases KK.1 hp with rfl | hp
  ·exact⟨hs.evo.size,⟨#[],0,e1.1,stamped_empty 0,rfl,fun i e p h=>by simp at h⟩⟩
  ·obtain ⟨h1,h2⟩:=hs.g.1.2 p hp
   obtain⟨es,clock,q,_⟩:=h2.at_
   exact⟨h1,h2.go (hu.toC _ _) (e1.2 _ (Je.1 q).1)⟩
theorem Qbc{κ:Type}[DecidableEq κ]{enc:κ->Value}{c:Qkt}{o:Oper}{K:St->MapsD->Prop}{g:MapsD}{m x:Operand}{b:Nat}{L:List (κ×DV)}{k:κ}{z:DV}{zv:Value}(hop:o.op=.lookup t m x false)(hf:S.fits o.dst=true)(ht:P.underlying t=some (.map kt et))(hk:KeyT P kt enc)(hz:∀ w,(zeroValue et).run P w=.ok zv w)(hzr:∀ w β hp,RelD w β hp z zv)(hm:Qn true (S.ev m)=.pv (.lit (.map (some b))))(hL:(b,Qbg enc L)∈g)(hx:∀ (w:World) (β:Map) (hp:Qa) (v:Value),RelD w β hp (Qn true (S.ev x)) v->v=enc k)(hK:K (S.put o.dst (Qc0 o.guard true ((Qds L k).getD z))) g):Qku P (Qa1 c) o K S g:=fun O β a w hs=>by
 obtain⟨-,h2⟩:=hs.g.1.2 _ hL
 have em:=QzT hs m
 rw[hm] at em
 have ex:=hx _ _ _ _ (QzT hs x)
 obtain⟨v,r1,r2⟩:=QeJ ht hk hz hzr h2 k false
 refine⟨v,w,.inl ?_,β,_,g,hs.put ⟨Jm _,fun _ _ _ _ h=>h⟩ hs.evo hf (Qaj r2) hs.g,hK⟩
 simp only[execOp,hop,Qk em,ex]
 simp[r1,Result.andThen]
theorem Qeu{κ:Type}[DecidableEq κ]{enc:κ->Value}{c:Qkt}{o:Oper}{K:St->MapsD->Prop}{g:MapsD}{m x:Operand}{b:Nat}{L:List (κ×DV)}{k:κ}{z:DV}{zv:Value}(hop:o.op=.lookup t m x true)(hf:S.fits o.dst=true)(ht:P.underlying t=some (.map kt et))(hk:KeyT P kt enc)(hz:∀ w,(zeroValue et).run P w=.ok zv w)(hzr:∀ w β hp,RelD w β hp z zv)(hm:Qn true (S.ev m)=.pv (.lit (.map (some b))))(hL:(b,Qbg enc L)∈g)(hx:∀ (w:World) (β:Map) (hp:Qa) (v:Value),RelD w β hp (Qn true (S.ev x)) v->v=enc k)(hK:K (S.put o.dst (Qc0 o.guard true (.tup [(Qds L k).getD z,.bool (Qds L k).isSome]))) g):Qku P (Qa1 c) o K S g:=fun O β a w hs=>by
 obtain⟨-,h2⟩:=hs.g.1.2 _ hL
 have em:=QzT hs m
 rw[hm] at em
 have ex:=hx _ _ _ _ (QzT hs x)
 obtain⟨v,r1,r2⟩:=QeJ ht hk hz hzr h2 k true
 refine⟨.tuple #[v,.bool (Qds L k).isSome],w,.inl ?_,β,_,g,hs.put ⟨Jm _,fun _ _ _ _ h=>h⟩ hs.evo hf (Qaj (.tup _ _ rfl fun i d hd=>?_)) hs.g,hK⟩
 ·simp only [execOp,hop,Qk em,ex]
  simp[r1,Result.andThen]
 ·match i with
  | 0=>simp at hd; subst hd; exact r2
  | 1=>simp at hd; subst hd; exact .pv _ _ (.lit _ rfl)
  | i+2=>simp at hd
theorem QjE [DecidableEq κ] (ht:P.underlying t = some (.map kt et)) (hk:KeyT P kt enc) (h:MapAt w β hp b (Qbg enc L)) (k:κ) (hd:RelD w β hp d v):
 ∃ es' clock',(Instr.mapUpdate t (.map (some b)) (enc k) v).run P w = .ok () { w with heap:=w.heap.setIfInBounds b (.map es' clock') }/\Stamped es' clock'/\es'.toList.map (·.key) = (Qbg enc (Qgl L k d)).map (·.1) /\
   ∀ (i:Nat) (e:MapEntry) (p:Value×DV),es'.toList[i]?=some e->(Qbg enc (Qgl L k d))[i]?=some p->RelD w β hp p.2 e.val:=by
 obtain⟨es,clock,h1,h2,h3,h4⟩:=h.at_
 have h3':es.toList.map (·.key)=(L.map (·.1)).map enc:=by rw[h3]; simp[Qbg]
 have hf:=hk.find w k es.toList (L.map (·.1)) h3'
 have hlen:es.toList.length=L.length:=by have:=congrArg Kx h3; simpa [Qbg] using this
 cases hi:(L.map (·.1)).findIdx? (fun x=>decide (x=k)) with
 | none =>
   obtain⟨p1,p2⟩:=Qlv L k d hi
   rw[hi] at hf
   refine⟨es.push { key:=enc k,val:=v,born:=clock },clock+1,?_,stamped_push h2 (fun x hx he=>?_),?_,fun i e p q1 q2=>?_⟩
   ·unfold Instr.mapUpdate
    simp only[Sem.run_bind,run_underlying ht,Result.andThen,Go.MapKept.run_getObj_map h1,hk.check,hf,Option.bind_none,Go.MapKept.run_setObj_map _ h1]
   ·have:x.key ∈ (L.map (·.1)).map enc:=by rw [<- h3']; exact J4.2 ⟨x,hx,rfl⟩
    obtain⟨y,hy,e⟩:=J4.1 this
    obtain⟨q,hq,rfl⟩:=J4.1 hy
    exact p2 q hq (hk.inj _ _ (e.trans he))
   ·rw[p1]; simp[Qbg,h3']
   ·rw [p1] at q2
    simp only[Qbg,Kw,Jr,KM] at q2
    simp only[Array.toList_push] at q1
    by_cases hlt:i<L.length
    ·rw [Jh (by omega)] at q1
     rw[Jh (by simpa using hlt)] at q2
     exact h4 i e p q1 q2
    ·rw [Jo (by omega)] at q1
     rw[Jo (by simp; omega)] at q2
     simp only[Jf] at q2
     have:i-L.length=0:=by
      cases hj:i-L.length with
      | zero=>rfl
      | succ j=>rw[hj] at q2; simp at q2
     rw[this] at q2
     rw[hlen,this] at q1
     simp at q1 q2
     subst q1; subst q2
     exact hd
 | some i =>
   obtain⟨p1,d0,p2⟩:=QtO L k d hi
   have hlt:i<L.length:=(Jb.1 p2).1
   have e2:es.toList[i]?=some es.toList[i]:=Ja (by omega)
   have hkey:es.toList[i].key=enc k:=by
    have:=congrArg (fun l=>l[i]?) h3'
    simp only[Jd,e2,p2,Jv,K1.injEq] at this
    exact this
   rw[hi,Kt,e2] at hf
   have hm:∀ e∈es.toList,es[i]?=some e->enc k=e.key:=fun e _ he=>by
    have:es.toList[i]?=some e:=by simpa using he
    rw[e2] at this
    simp only[K1.injEq] at this
    rw[<- this,hkey]
   refine⟨es.modify i fun e=>{ e with key:=enc k,val:=v },clock,?_,stamped_modify h2 i _ (fun _ _=>rfl) (fun e h1 h2=>hm e h1 h2),?_,fun j e p q1 q2=>?_⟩
   ·have e1:((es[i]?).map (·.key)).getD (enc k) = enc k:=by
     have:es[i]?=some es.toList[i]:=by simp
     rw[this]; exact hkey
    unfold Instr.mapUpdate
    simp only[Sem.run_bind,run_underlying ht,Result.andThen,Go.MapKept.run_getObj_map h1,hk.check,hf,Jv,e1,hk.stays,Go.MapKept.run_setObj_map _ h1]
   ·rw [modify_keys i _ (fun e he=>by
     have h':es.toList[i]?=some e:=by simpa using he
     exact hm e (KV h') he),h3',p1]
    have hs:(L.set i (k,d)).map (·.1)=L.map (·.1):=by
     rw[Ug]
     apply Kd
     intro j
     rw[JR]
     split
     ·rename_i hij
      subst hij
      rw[if_pos (by simpa using hlt),Jd,p2]
      rfl
     ·rfl
    rw[<- hs]
    simp only[Qbg,Uj]
    rfl
   ·rw [p1] at q2
    by_cases hij:i=j
    ·subst hij
     have q1':(es.modify i fun e=>{ e with key:=enc k,val:=v })[i]?=some e:=by rw[<- Kp]; exact q1
     rw[KS,if_pos rfl] at q1'
     have e2':es[i]?=some es.toList[i]:=by simp
     rw[e2'] at q1'
     simp at q1'
     subst q1'
     simp[Qbg,JR,hlt] at q2
     subst q2
     exact hd
    ·have q1':(es.modify i fun e=>{ e with key:=enc k,val:=v })[j]? = some e:=by rw [<- Kp]; exact q1
     rw[KS,if_neg hij] at q1'
     refine h4 j e p (by simpa using q1') ?_
     simpa [Qbg,JR,hij] using q2
theorem QBy {O:Org} (hg:MapsD.At c g O.w w β hp) (hL:(b,L) ∈ g) (h1:Stamped es clock) (h2:es.toList.map (·.key) = L'.map (·.1)) (h3:∀ (i:Nat) (e:MapEntry) (p:Value × DV),es.toList[i]? = some e->L'[i]? = some p->RelD w β hp p.2 e.val):
 Up w { w with heap:=w.heap.setIfInBounds b (.map es clock) }/\(∀ {w0 β0 hp0},Evo w0 β0 hp0 w β hp->w0=O.w->Evo w0 β0 hp0 { w with heap:=w.heap.setIfInBounds b (.map es clock) } β hp)/\MapsD.At c (g.map fun p=>if p.1=b then (b,L') else p) O.w { w with heap:=w.heap.setIfInBounds b (.map es clock) } β hp:=by
 obtain⟨hb,h⟩:=hg.1.2 _ hL
 obtain⟨es0,clock0,q,_⟩:=h.at_
 obtain⟨s1,s2⟩:=Go.MapKept.heap_set (o':=.map es clock) q
 have hgr:w.grownBy { w with heap:=w.heap.setIfInBounds b (.map es clock) } (some b):=⟨rfl,rfl,rfl,by simp,fun i hi hne=>s2 i (fun e=>hne (by rw[e]))⟩
 have hr:∀ r,some b=some r->O.w.heap.size<=r/\∃ o:Obj,w.heap[r]?=some o/\o.isCells=false:=fun r e=>by cases e; exact⟨hb,_,q,rfl⟩
 have hu:Up w { w with heap:=w.heap.setIfInBounds b (.map es clock) }:=Up.grown hgr fun r e=>(hr r e).2
 refine⟨hu,fun {w0 β0 hp0} ev e=>?_,⟨⟨?_,fun p hp=>?_⟩,hg.2.trans (hu.toC _ _)⟩⟩
 ·subst e; exact ev.grown hgr hr
 ·have e:(g.map fun p=>if p.1 = b then (b,L') else p).map (·.1) = g.map (·.1):=by
   rw[Uj]
   refine List.map_congr_left fun p _=>?_
   simp only[Function.comp]
   split
   ·rename_i he; exact he.symm
   ·rfl
  rw[e]; exact hg.1.1
 ·obtain ⟨q',hq',rfl⟩:=J4.1 hp
  split
  ·exact⟨hb,es,clock,s1,h1,h2,fun i e p q1 q2=>(h3 i e p q1 q2).up hu⟩
  ·rename_i he
   obtain⟨k1,k2⟩:=hg.1.2 q' hq'
   exact⟨k1,k2.go (hu.toC _ _) (s2 _ he)⟩
theorem QcX{κ:Type}[DecidableEq κ]{enc:κ->Value}{c:Qkt}{o:Oper}{K:St->MapsD->Prop}{g:MapsD}{m x y:Operand}{b:Nat}{L:List (κ×DV)}{k:κ}(hop:o.op=.mapUpdate t m x y)(hf:S.fits o.dst=true)(ht:P.underlying t=some (.map kt et))(hk:KeyT P kt enc)(hm:Qn true (S.ev m)=.pv (.lit (.map (some b))))(hL:(b,Qbg enc L)∈g)(hx:∀ (w:World) (β:Map) (hp:Qa) (v:Value),RelD w β hp (Qn true (S.ev x)) v->v=enc k)(hK:K (S.put o.dst (Qc0 o.guard true (.tup []))) (g.map fun p=>if p.1=b then (b,Qbg enc (Qgl L k (Qn true (S.ev y)))) else p)):Qku P (Qa1 c) o K S g:=fun O β a w hs=>by
 obtain⟨h1,h2⟩:=hs.g.1.2 _ hL
 have em:=QzT hs m
 rw[hm] at em
 have ex:=hx _ _ _ _ (QzT hs x)
 have ey:=QzT hs y
 obtain⟨es',clock',r1,r2,r3,r4⟩:=QjE ht hk h2 k ey
 obtain⟨u1,u2,u3⟩:=QBy (L':=Qbg enc (Qgl L k (Qn true (S.ev y)))) hs.g hL r2 r3 r4
 refine⟨undef,_,.inr ⟨?_,rfl⟩,β,_,_,hs.put u1 (u2 hs.evo rfl) hf (Qaj (.tup [] #[] rfl (by simp))) u3,hK⟩
 simp only[execOp,hop,Qk em,ex]
 simp[r1,Result.andThen]
end Go.V
namespace Go.V
variable {P:Program} {γ:Type} {Γ:γ->World->World->Map->Qa->Prop} {ops:Array Oper}
def Qa7(ops:Array Oper)(i:Nat):List Nat:=match ops[i]? with | some o=>(o.after.toList.filter fun e=>Region.binds .any e).map (·.on) | none=>[]
def QmC(ops:Array Oper):Nat->Nat->List Nat
 | 0,_=>[]
 | f+1,i=>Qa7 ops i++(Qa7 ops i).flatMap (QmC ops f)
def Qnf(ops:Array Oper)(k f:Nat):Bool:=
 decide (k<ops.size)&&(JA ops.size).all (fun i=>(Qa7 ops i).all fun j=>decide (j<i)) &&
 (JA k).all (fun i=>(QmC ops f k).contains i) &&
 (JA ops.size).all fun j=>decide (j<=k)||((QmC ops f j).contains k&&match ops[j]? with | some o=>o.guard.isNone | none=>false)
structure SplitOk(ops:Array Oper)(k f:Nat):Prop where
 lt:k<ops.size
 back:∀ i,i<ops.size->∀ j∈Qa7 ops i,j<i
 pre:∀ i,i<k->i∈QmC ops f k
 post:∀ j,k<j->j<ops.size->k∈QmC ops f j/\∃ o,ops[j]?=some o/\o.guard=none
theorem Qla(h:Qnf ops k f=true):SplitOk ops k f:=by
 simp only[Qnf,Jp,decide_eq_true_eq] at h
 obtain⟨⟨⟨h1,h2⟩,h3⟩,h4⟩:=h
 refine⟨h1,fun i hi j hj=>?_,fun i hi=>?_,fun j hj hlt=>?_⟩
 ·have:=JZ.1 (JZ.1 h2 i (JS.2 hi)) j hj
  simpa using this
 ·have:=JZ.1 h3 i (JS.2 hi)
  simpa using this
 ·have:=JZ.1 h4 j (JS.2 hlt)
  simp only[J3,decide_eq_true_eq,Jp] at this
  rcases this with this | ⟨e1,e2⟩
  ·omega
  ·refine ⟨by simpa using e1,ops[j],JD hlt,?_⟩
   rw[JD hlt] at e2
   simpa using e2
def ClosedL(ops:Array Oper)(L:Array Bool):Prop:=∀ i,L.getD i false=true->∀ j∈Qa7 ops i,L.getD j false=true
theorem Qd2 (hc:ClosedL ops L):∀ (f i:Nat),(∀ j ∈ Qa7 ops i,L.getD j false = true)->∀ j ∈ QmC ops f i,L.getD j false = true
 | 0,_,_,j,hj=>by simp[QmC] at hj
 | f + 1,i,h,j,hj=>by
   simp only[QmC,Kj,List.mem_flatMap] at hj
   rcases hj with hj | ⟨m,hm,hj⟩
   ·exact h j hj
   ·exact Qd2 hc f m (hc m (h m hm)) j hj
theorem mem_ready':i∈Region.ready .any ops L ↔ i<ops.size/\L.getD i true=false/\∀ j∈Qa7 ops i,L.getD j false=true:=by
 rw[mem_ready]
 constructor
 ·rintro ⟨h1,o,ho,h2⟩
  refine⟨(Je.1 ho).1,h1,fun j hj=>?_⟩
  simp only[Qa7,ho,J4,Ud] at hj
  obtain⟨e,⟨he,hb⟩,rfl⟩:=hj
  exact h2 e (by simpa using he) hb
 ·rintro ⟨h1,h2,h3⟩
  refine⟨h2,ops[i],JD h1,fun e he hb=>h3 _ ?_⟩
  simp only[Qa7,JD h1,J4,Ud]
  exact⟨e,⟨by simpa using he,hb⟩,rfl⟩
theorem ClosedL.set(hc:ClosedL ops L)(hi:i<L.size)(hp:∀ j∈Qa7 ops i,L.getD j false=true):ClosedL ops (L.setIfInBounds i true):=fun m hm j hj=>by
 by_cases e:i=m
 ·subst e
  exact getD_set_true (hp j hj)
 ·rw [getD_set_ne false e] at hm
  exact getD_set_true (hc m hm j hj)
theorem Qrb (hback:∀ i,i < ops.size->∀ j ∈ Qa7 ops i,j < i) (hs:L.size = ops.size) (hn:n<=ops.size) (h:∀ i,i < n->i ∉ Region.ready .any ops L):∀ i,i < n->L.getD i false = true:=by
 intro i
 induction i using KA with
 | _ i ih =>
   intro hlt
   cases hl:L.getD i false with
   | true=>rfl
   | false =>
     refine absurd (mem_ready'.2 ⟨by omega,?_,fun j hj=>?_⟩) (h i hlt)
     ·have:i < L.size:=by omega
      simpa [this] using hl
     ·have:=hback i (by omega) j hj
      exact ih j this (by omega)
theorem Qnu(hi:i<k):((ops.toList.take k).toArray)[i]?=ops[i]?:=by
 simp[hi]
theorem QtR(hi:i<k):Qa7 (ops.toList.take k).toArray i=Qa7 ops i:=by unfold Qa7; rw[Qnu hi]
theorem Qn9 {o:Oper} (h:∀ a w,K a w->K' a w) (hq:∀ e a w,e ≠ .normal->Q e a w->Q' e a w) (hh:o.wp P a w K Q):o.wp P a w K' Q':=by
 unfold Oper.wp at *
 generalize (execOp a.eval o).run P w=r at *
 cases r with
 | ok n w' =>
   cases n<;>simp only[Oper.upon] at hh |- <;>
    first
     | exact h _ _ hh
     | exact Calls.mono hh (fun e w'' he=>by cases e<;>first | exact h _ _ he | exact hq _ _ _ (by simp) he | exact(let ⟨a1,w1,h1⟩:=(he:LetsOut Q); (⟨a1,w1,hq _ _ _ (by simp) h1⟩:LetsOut Q')))
     | exact Rows.mono hh (fun _ _ he=>h _ _ he)
 | halt x w'=>cases x<;>simp only[Oper.upon] at hh |-<;>first | exact hq _ _ _ (by simp) hh | exact hh
theorem Qiw:∀ (n:Nat) (L:Array Bool) (a:Act) (w:World),wpAny P .any ops Q n L a w->wpAny P .any ops Q (n+1) L a w
 | 0,L,a,w,h=>⟨fun _=>h.2,fun i hi=>by rw[h.1] at hi; (cases hi)⟩
 | n+1,L,a,w,h=>⟨h.1,fun i hi=>wpOp_mono (fun a w=>Qiw n _ a w) (h.2 i hi)⟩
theorem Qix(h:wpAny P .any ops Q n L a w):∀ m,wpAny P .any ops Q (m+n) L a w
 | 0=>by rw[Ju]; exact h
 | m+1=>by rw[show m+1+n=(m+n)+1 by omega]; exact Qiw _ _ _ _ (Qix h m)
theorem QC2 (sp:SplitOk ops k f) (hg:∀ i,i < k->∀ o,ops[i]? = some o->o.guard = none\/∃ j b,o.guard = some (j,b)/\j < k) (hq1:∀ e a w,Q1 e a w->e = .normal) (hN:∀ (L:Array Bool),L.size = ops.size->(∀ i,L.getD i false = decide (i < k))->∀ a w,Q1 .normal a w->wpOp P ops Q k (wpAny P .any ops Q m (L.setIfInBounds k true)) a w):
 ∀ (fuel:Nat) (L L1:Array Bool) (a:Act) (w:World),L.size = ops.size->L1.size = k->(∀ i,i < k->L1.getD i false = L.getD i false)->ClosedL ops L->(∀ i,k<=i->L.getD i false = false) ->
   wpAny P .any (ops.toList.take k).toArray Q1 fuel L1 a w->wpAny P .any ops Q (fuel+(m+1)) L a w:=by
 have hsz:(ops.toList.take k).toArray.size=k:=by have:=sp.lt; simp; omega
 have rd:∀ (L L1:Array Bool),L.size = ops.size      -> L1.size = k->(∀ i,i < k->L1.getD i false = L.getD i false)->∀ i,i < k->(i ∈ Region.ready .any (ops.toList.take k).toArray L1 ↔ i ∈ Region.ready .any ops L):=by
  intro L L1 h1 h2 h3 i hi
  have hlt:i<ops.size:=KQ hi sp.lt
  rw[mem_ready',mem_ready',hsz,QtR hi]
  have e1:L1.getD i true = L1.getD i false:=by     have:i < L1.size:=by omega
                                                   simp[this]
  have e2:L.getD i true = L.getD i false:=by     have:i < L.size:=by omega
                                                 simp[this]
  rw[e1,e2,h3 i hi]
  constructor
  ·rintro⟨_,a,b⟩; exact⟨hlt,a,fun j hj=>by rw[<- h3 j (KQ (sp.back i hlt j hj) hi)]; exact b j hj⟩
  ·rintro⟨_,a,b⟩; exact⟨hi,a,fun j hj=>by rw[h3 j (KQ (sp.back i hlt j hj) hi)]; exact b j hj⟩
 have fin:∀ (x:Nat) (L L1:Array Bool) (a:Act) (w:World),L.size = ops.size->L1.size = k->(∀ i,i < k->L1.getD i false = L.getD i false)->ClosedL ops L->(∀ i,k<=i->L.getD i false = false) ->
  Region.ready .any (ops.toList.take k).toArray L1=[]->Q1 .normal a w->(∀ i,i<ops.size->i∈Region.ready .any ops L->i=k)/\k∈Region.ready .any ops L/\wpOp P ops Q k (wpAny P .any ops Q m (L.setIfInBounds k true)) a w:=by
  intro x L L1 a w h1 h2 h3 h4 h5 h6 h7
  have hall:∀ i,i<k->L.getD i false=true:=Qrb (n:=k) sp.back h1 (Uk sp.lt) fun i hi hm=>by
   have:=(rd L L1 h1 h2 h3 i hi).2 hm
   rw[h6] at this
   cases this
  have hL:∀ i,L.getD i false=decide (i<k):=fun i=>by
   by_cases hi:i<k
   ·rw[hall i hi,decide_eq_true hi]
   ·rw[h5 i (by omega),decide_eq_false hi]
  have hk:k∈Region.ready .any ops L:=by
   have hks:k<L.size:=by rw[h1]; exact sp.lt
   refine mem_ready'.2 ⟨sp.lt,?_,fun j hj=>hall j (sp.back k sp.lt j hj)⟩
   have h':=h5 k (Jm _)
   simpa [hks] using h'
  refine⟨fun i hi hm=>?_,hk,hN L h1 hL a w h7⟩
  obtain⟨r1,r2,r3⟩:=mem_ready'.1 hm
  have hi':i<L.size:=by omega
  have hu:L.getD i false=false:=by simpa [hi'] using r2
  rw[hL] at hu
  by_cases hik:i=k
  ·exact hik
  ·have hki:k < i:=by
    have:¬ i<k:=by simpa using hu
    omega
   have:=Qd2 h4 f i r3 k (sp.post i hki hi).1
   rw[hL] at this
   simp at this
 have step:∀ (n:Nat) (L L1:Array Bool) (a:Act) (w:World),n=m->L.size=ops.size->L1.size=k->(∀ i,i<k->L1.getD i false=L.getD i false)->ClosedL ops L->(∀ i,k<=i->L.getD i false=false) ->
  Region.ready .any (ops.toList.take k).toArray L1=[]->Q1 .normal a w->wpAny P .any ops Q (n+1) L a w:=by
  intro n L L1 a w e h1 h2 h3 h4 h5 h6 h7
  subst e
  obtain⟨g1,g2,g3⟩:=fin 0 L L1 a w h1 h2 h3 h4 h5 h6 h7
  refine⟨fun h=>by rw[h] at g2; (cases g2),fun i hi=>?_⟩
  have:=g1 i (mem_ready'.1 hi).1 hi
  subst this
  exact g3
 intro fuel
 induction fuel with
 | zero =>
   intro L L1 a w h1 h2 h3 h4 h5 h
   rw[Ju]
   exact step m L L1 a w rfl h1 h2 h3 h4 h5 h.1 h.2
 | succ fuel ih =>
   intro L L1 a w h1 h2 h3 h4 h5 h
   by_cases hr:Region.ready .any (ops.toList.take k).toArray L1=[]
   ·exact Qix (step m L L1 a w rfl h1 h2 h3 h4 h5 hr (h.1 hr)) (fuel+1)
   ·obtain ⟨j,hj⟩:=List.exists_mem_of_ne_nil _ hr
    have hjk:j<k:=by have:=(mem_ready'.1 hj).1; rw[hsz] at this; exact this
    have hju:L.getD j false=false:=by
     have hj1:j<L1.size:=by omega
     have:=(mem_ready'.1 hj).2.1
     rw[<- h3 j hjk]
     simpa [hj1] using this
    rw[show fuel+1+(m+1)=(fuel+(m+1))+1 by omega]
    refine⟨fun hn=>?_,fun i hi=>?_⟩
    ·have:=(rd L L1 h1 h2 h3 j hjk).1 hj
     rw[hn] at this
     cases this
    ·obtain ⟨r1,r2,r3⟩:=mem_ready'.1 hi
     have hik:i<k:=by
      by_cases hlt:i<k
      ·exact hlt
      ·exfalso
       by_cases he:i=k
       ·subst he
        have:=Qd2 h4 f i r3 j (sp.pre j hjk)
        rw[hju] at this
        cases this
       ·have:=Qd2 h4 f i r3 k (sp.post i (by omega) r1).1
        rw[h5 k (Jm _)] at this
        cases this
     have hi1:=h.2 i ((rd L L1 h1 h2 h3 i hik).2 hi)
     have ho:ops[i]?=some ops[i]:=JD r1
     have hiL:i<L.size:=by omega
     have hiL1:i<L1.size:=by omega
     unfold wpOp at hi1 |-
     rw[Qnu hik,ho] at hi1
     rw[ho]
     dsimp only at hi1 |-
     have hw:Region.wanted ops[i] (yielded (ops.toList.take k).toArray a.tmps)=Region.wanted ops[i] (yielded ops a.tmps):=by
      unfold Region.wanted
      rcases hg i hik _ ho with e | ⟨j',b,e,hj'⟩
      ·rw[e]
      ·rw[e]; simp only[yielded,Qnu hj']
     rw[hw] at hi1
     have go:∀ a w,wpAny P .any (ops.toList.take k).toArray Q1 fuel (L1.setIfInBounds i true) a w->wpAny P .any ops Q (fuel+(m+1)) (L.setIfInBounds i true) a w:=fun a w hh=>
      ih (L.setIfInBounds i true) (L1.setIfInBounds i true) a w (by simpa using h1) (by simpa using h2) (fun x hx=>by
       by_cases e:i=x
       ·subst e; simp[hiL,hiL1]
       ·rw[getD_set_ne false e,getD_set_ne false e]; exact h3 x hx) (h4.set hiL r3) (fun x hx=>by rw[getD_set_ne false (by omega)]; exact h5 x hx) hh
     split at hi1
     ·rename_i hww
      rw[if_pos hww]
      rcases hi1 with hi1 | ⟨e1,a1,w1,e2⟩
      ·exact .inl (Qn9 go (fun e a w hne hq=>absurd (hq1 e a w hq) hne) hi1)
      ·exact absurd (hq1 _ _ _ e2) (by simp)
     ·rename_i hww
      rw[if_neg hww]
      exact go _ _ hi1
def QpP:Oper:={ dst:=none,op:=.move (.const (.bool true)),type:=0,pos := "", after:=#[],guard:=none }
def QaC(ops:Array Oper)(k:Nat):Array Oper:=(JF (k+1) QpP++ops.toList.drop (k+1)).toArray
theorem QhR(h:k<ops.size):(QaC ops k).size=ops.size:=by simp[QaC]; omega
theorem QhS(h:k<i):(QaC ops k)[i]?=ops[i]?:=by
 simp only[QaC,Kq]
 rw[Jo (by simp; omega),K3,<- Kp]
 congr 1
 rw[Jk]
 omega
theorem Qi8(h:i<=k):(QaC ops k)[i]?=some QpP:=by
 simp only[QaC,Kq]
 rw[Jh (by simp; omega),KL,if_pos (by omega)]
theorem Qq9(sp:SplitOk ops k f):∀ (fuel:Nat) (L:Array Bool) (a:Act) (w:World),L.size=ops.size->(∀ i,i<=k->L.getD i false=true)->wpAny P .any (QaC ops k) Q fuel L a w->wpAny P .any ops Q fuel L a w:=by
 have rd:∀ (L:Array Bool),L.size=ops.size->(∀ i,i<=k->L.getD i false=true)->Region.ready .any (QaC ops k) L=Region.ready .any ops L:=by
  intro L hL h
  unfold Region.ready
  rw[QhR sp.lt]
  refine List.filter_congr fun i hi=>?_
  by_cases hik:i<=k
  ·have hiL:i < L.size:=by rw [hL]; exact JS.1 hi
   have:=h i hik
   have e:L.getD i true=true:=by simpa [hiL] using this
   simp[e]
  ·rw[QhS (by omega)]
 intro fuel
 induction fuel with
 | zero=>intro L a w h1 h2 h; exact⟨by rw[<- rd L h1 h2]; exact h.1,h.2⟩
 | succ fuel ih =>
   intro L a w h1 h2 h
   have e:=rd L h1 h2
   refine⟨fun hr=>h.1 (by rw[e]; exact hr),fun i hi=>?_⟩
   have hi1:=h.2 i (by rw[e]; exact hi)
   obtain⟨r1,r2,r3⟩:=mem_ready'.1 hi
   have hik:k<i:=by
    by_cases hlt:k<i
    ·exact hlt
    ·have:=h2 i (by omega)
     have hiL:i<L.size:=by omega
     have hx:L.getD i true=true:=by simpa [hiL] using this
     rw[hx] at r2
     cases r2
   obtain⟨-,o,ho,hg⟩:=sp.post i hik r1
   unfold wpOp at hi1 |-
   rw[QhS hik,ho] at hi1
   rw[ho]
   dsimp only at hi1 |-
   have hw:∀ y,Region.wanted o y=true:=fun y=>by simp[Region.wanted,hg]
   rw[hw,if_pos rfl] at hi1 |-
   have go:∀ a w,wpAny P .any (QaC ops k) Q fuel (L.setIfInBounds i true) a w->wpAny P .any ops Q fuel (L.setIfInBounds i true) a w:=fun a w hh=>
    ih _ a w (by simpa using h1) (fun x hx=>by rw[getD_set_ne false (by omega)]; exact h2 x hx) hh
   exact hi1.imp (fun hi1=>Qn9 go (fun e a w _ hq=>hq) hi1) id
theorem QiE(S:St):QmH P all S QpP S ([],false):=by
 refine⟨rfl,true,rfl,.inr (.inl ⟨.bool true,S.hp,rfl,rfl,rfl,rfl,rfl⟩)⟩
theorem Qmq{L:Array Bool}(h:k<n)(hL:∀ i,i<=k->L.getD i false=true):(JA n).countP (fun i=>!L.getD i false)<=n-k-1:=by
 have e:JA n=JA (k+1)++J0 (k+1) (n-k-1):=by
  have e:=Ku (s:=0) (m:=k+1) (n:=n-k-1)
  rw[Ju] at e
  rw[Kf,Kf,e]
  congr 1
  omega
 rw[e,List.countP_append]
 have h0:(JA (k+1)).countP (fun i=>!L.getD i false)=0:=by
  rw[List.countP_eq_zero]
  intro i hi
  have:=hL i (by have:=JS.1 hi; omega)
  simp only[this]
  decide
 have h1:=Ko (p:=fun i=>!L.getD i false) (l:=J0 (k+1) (n-k-1))
 simp only[List.length_range'] at h1
 omega
theorem QC1(sp:SplitOk ops k f)(hB:Qfi (QaC ops k)=true)(hK:∀ β S a w,Sim O β S a w->K S->Q .normal a w)(h:vdr P (QaC ops k).toList (ops.toList.drop (k+1)) (JF (k+1) ([],false)) K S)(hL:L.size=ops.size)(hLk:∀ i,L.getD i false=decide (i<=k))(hs:Sim O β S a w):wpAny P .any ops Q (ops.size-k-1) L a w:=by
 obtain⟨T,F,t1,t2,t3,t4⟩:=Qdc (ops.toList.drop (k+1)) (JF (k+1) QpP) (JF (k+1) ([],false)) S rfl (by simp) h
 simp only[Jk] at t2 t4
 have hF:∀ i,i<=k->F i=([],false):=fun i hi=>t1 i _ (by rw[KL,if_pos (by omega)])
 have hsz:=QhR sp.lt
 have hlist:(QaC ops k).toList.length=ops.size:=by rw[<- hsz]; simp
 obtain⟨T',hT'⟩:∃ T':Nat->St,T'=fun j=>if j<=k then S else T j:=⟨_,rfl⟩
 have e1:∀ j,j<=k->T' j=S:=fun j hj=>by rw[hT']; exact if_pos hj
 have e2:∀ j,k<j->T' j=T j:=fun j hj=>by rw[hT']; exact if_neg (by omega)
 have hsteps:Steps P (QaC ops k) T' F:=⟨fun j hj=>by
  by_cases hjk:j<=k
  ·refine ⟨QpP,Qi8 hjk,?_,fun i _ hc=>?_⟩
   ·rw [e1 j hjk,hF j hjk]
    by_cases hj1:j+1<=k
    ·rw[e1 _ hj1]; exact QiE S
    ·rw[e2 _ (by omega),show j+1=k+1 by omega,t2]; exact QiE S
   ·rw [hF j hjk] at hc
    obtain⟨_,x,_,hx⟩:=hc
    simp at hx
  ·obtain ⟨o,g1,g2,g3⟩:=t4 j (by omega) (by simp only [Ji,Jk,Js,Array.length_toList]; omega)
   refine⟨o,by simp only[QaC,Kq]; exact g1,?_,g3⟩
   rw[e2 j (by omega),e2 (j+1) (by omega)]
   exact g2,hB⟩
 refine Qq9 sp _ _ _ _ hL (fun i hi=>by rw[hLk,decide_eq_true hi]) ?_
 refine Qch (O:=O) hsteps (fun β a w hk=>hK β _ a w hk ?_) _ L a w β S ?_ hs ?_
 ·rw [hsz,e2 _ sp.lt,<- hlist]
  exact t3
 ·rw [hsz]
  exact Qmq sp.lt fun i hi=>by rw[hLk,decide_eq_true hi]
 ·have k1:T' (k + 1) = S:=by rw [e2 _ (by omega),t2]
  have k0:T' 0=S:=e1 0 (JE _)
  refine⟨hL.trans hsz.symm,by rw[k0],by rw[k0],by rw[k0],fun i o ho hl e he=>?_,fun t=>⟨k+1,by rw[hsz]; exact sp.lt,by rw[k1],fun i hi _=>by rw[hLk,decide_eq_true (by omega)],fun i hi _=>by rw[hLk,decide_eq_false (by omega)]⟩,
   fun t=>⟨k+1,by rw[hsz]; exact sp.lt,by rw[k1],fun i hi _=>by rw[hLk,decide_eq_true (by omega)],fun i hi _ _=>by rw[hLk,decide_eq_false (by omega)]⟩⟩
  rw[hLk] at hl
  rw[Qi8 (by simpa using hl)] at ho
  cases ho
  simp[QpP] at he
def QFu(P:Program)(ops:Array Oper)(K:St->Prop)(S:St):Prop:=∀ (O:Org) (β:Map) (a:Act) (w:World),Sim O β S a w->wpAny P .any ops (QmJ O fun e S=>e=.normal/\K S) ops.size (Jq ops.size false) a { w with drawn:=w.drawn+1 }
theorem Qra(H0:List Nat)(segs:List Seg)(hok:Qg9 ops H0 segs=true)(h:Qbi P ops.toList (pick ops.toList H0) (vsp P ops.toList segs K) S):QFu P ops K S:=fun _ _ _ _ hs=>
 Qfs (Q:=fun e S=>e=.normal/\K S) H0 segs hok (by simpa using h) hs
theorem QY (hB:Qfi ops = true) (h:vdr P ops.toList ops.toList [] K S):QFu P ops K S:=by
 intro O β a w hs
 obtain⟨T,F,_,h2,h3,h4⟩:=Qdc ops.toList [] [] S rfl rfl h
 simp only[Jg] at h2
 have hsteps:Steps P ops T F:=⟨fun j hj=>by
  obtain⟨o,e1,e2,e3⟩:=h4 j (JE _) (by simpa using hj)
  exact⟨o,by simpa using e1,e2,e3⟩,hB⟩
 have hs':Sim O β (T 0) a { w with drawn:=w.drawn+1 }:=by
  rw[h2]
  have e:Evo w β S.hp w.drew β S.hp:=Qbw w β S.hp
  exact⟨hs.defers,hs.size,fun t=>(hs.tm t).mono e,hs.heap.drew,hs.evo.trans e,hs.base⟩
 refine Qch (O:=O) hsteps (fun β a w hk=>⟨β,_,hk,rfl,by simpa using h3⟩) ops.size (Jq ops.size false) a _ β (T 0) ?_ hs' ?_
 ·have:=Ko (p:=fun i=>!(Jq ops.size false).getD i false) (l:=JA ops.size)
  simpa using this
 ·have hfalse:∀ i,(Jq ops.size false).getD i false = false:=fun i=>by
   by_cases hi:i<ops.size
   ·simp[hi]
   ·simp[hi]
  refine⟨by simp,rfl,rfl,rfl,fun i o _ hl=>?_,fun t=>⟨0,JE _,rfl,fun i hi=>absurd hi (Kk _),fun i _ _=>hfalse i⟩,fun k=>⟨0,JE _,rfl,fun i hi=>absurd hi (Kk _),fun i _ _ _=>hfalse i⟩⟩
  rw[hfalse] at hl
  cases hl
def Qyw(ops:Array Oper)(k:Nat):Bool:=(JA k).all fun i=>match ops[i]? with
 | some o=>(match o.guard with | none=>true | some (j,_)=>decide (j<k))
 | none=>true
def QFB(P:Program)(ops:Array Oper)(k:Nat)(K:St->Prop)(S:St):Prop:=vdr P (QaC ops k).toList (ops.toList.drop (k+1)) (JF (k+1) ([],false)) K S
theorem VWpG.drawn (hΓ:∀ g,Stable (Γ g)) {id k f:Nat} (hm:P.follows .mixedOrders = true) (hs:Qnf ops k f = true) (hgd:Qyw ops k = true) (hB:Qfi (QaC ops k) = true) (hk':ops.toList[k]? = some o) (h:QFu P (ops.toList.take k).toArray (fun S1=>QD ops.toList S1 o = some true /\
  Qku P Γ o (fun S2 g2=>QFB P ops k (fun S3=>Q .normal S3 g2) S2.reb) S1 g) S.reb):VWpG P Γ (.region id ops true) Q S g:=fun O β a w hw=>by
 have sp:=Qla hs
 have hk:ops[k]?=some o:=by simpa using hk'
 have hg:∀ i,i<k->∀ o,ops[i]?=some o->o.guard=none\/∃ j b,o.guard=some (j,b)/\j<k:=fun i hi o ho=>by
  have:=JZ.1 hgd i (JS.2 hi)
  rw[ho] at this
  dsimp only at this
  cases hgo:o.guard with
  | none=>exact .inl rfl
  | some jb=>obtain⟨j,b⟩:=jb; rw[hgo] at this; exact .inr ⟨j,b,rfl,by simpa using this⟩
 have hsz:(ops.toList.take k).toArray.size=k:=by have:=sp.lt; simp; omega
 refine wp_region_any hm ?_
 have h1:=h _ _ _ _ hw.reb
 rw[hsz] at h1
 have e:ops.size=k+((ops.size-k-1)+1):=by have:=sp.lt; omega
 have hfalse:∀ n i,(Jq n false).getD i false=false:=fun n i=>by
  by_cases hi:i<n<;>simp[hi]
 have key:=QC2 (P:=P) (Q:=Quk Γ O Q) (m:=ops.size-k-1) sp hg (fun e a w hq=>by obtain⟨_,_,_,hq,_⟩:=hq; exact hq) (fun L hL hLk a1 w1 hq=>?_) k (Jq ops.size false) (Jq k false) a { w with drawn:=w.drawn+1 } (by simp) (by simp) (fun i hi=>by rw[hfalse,hfalse]) (fun i hi=>by rw[hfalse] at hi; cases hi) (fun i _=>hfalse _ i) h1
 ·rw [<- e] at key
  exact key
 ·obtain ⟨β1,S1,hs1,-,hg1,hd⟩:=hq
  have hw1:=hw.on (hΓ g) hs1
  unfold wpOp
  rw[hk]
  dsimp only
  rw[Qey hw1 hg1,if_pos rfl]
  refine .inl ?_
  obtain⟨v,w',hrun,β',S',g',h2,h3⟩:=hd O β1 a1 w1 hw1
  have nxt:wpAny P .any ops (Quk Γ O Q) (ops.size-k-1) (L.setIfInBounds k true) (a1.put o.dst v) w':=by
   refine QC1 (O:=⟨w',β',S'.hp,(a1.put o.dst v).defers⟩) sp hB (K:=fun S3=>Q .normal S3 g') (fun β3 S3 a3 w3 hs3 hq3=>⟨β3,S3,g',h2.on (hΓ g') hs3,hq3⟩) h3 (by simpa using hL) (fun i=>?_) h2.reb
   by_cases hik:k=i
   ·subst hik
    have:k<L.size:=by rw[hL]; exact sp.lt
    simp[this]
   ·rw [getD_set_ne false hik,hLk]
    congr 1
    exact propext ⟨fun h=>Uk h,fun h=>by omega⟩
  unfold Oper.wp
  rcases hrun with hrun | ⟨hrun,rfl⟩
  ·rw[hrun]; exact nxt
  ·rw[hrun]; exact nxt
end Go.V
namespace Go.V
variable {P:Program}
structure VCallsG(P:Program)(g:FuncId)(args:List DV)(h:Qa)(gh:MapsD)(R:DV->Qa->MapsD->Prop):Prop where
 fn:∃ fn,P.funcs[g]?=some fn/\(fn.name == "runtime.NumGoroutine")=false/\fn.body.isNone=false
 run:∀ (O:Org) (w:World) (β:Map) (vs:Array Value),Evo O.w O.β O.hp w β h->HeapRel w β h->RelL w β h args vs->Qz3 gh O.w w β h ->
  Calls P g vs w fun e w'=>∃ v r h' β' gh',e=.returned v/\Evo O.w O.β O.hp w' β' h'/\HeapRel w' β' h'/\RelD w' β' h' r v/\MapsD.At (w,β,h) gh' O.w w' β' h'/\R r h' gh'
theorem VCallsG.mono(c:VCallsG P g args h gh R)(hr:∀ r h' gh',R r h' gh'->R' r h' gh'):VCallsG P g args h gh R':=
 ⟨c.fn,fun O w β vs a1 a2 a3 a4=>(c.run O w β vs a1 a2 a3 a4).mono fun _ _ ⟨v,r,h',β',gh',k1,k2,k3,k4,k5,k6⟩=>⟨v,r,h',β',gh',k1,k2,k3,k4,k5,hr _ _ _ k6⟩⟩
theorem Qce (hG:QD ops.toList S o = some true) (hf:S.fits o.dst = true) (hc:Qo (fun x=>Qn true (S.ev x)) o.op = some (f,args)) (hcalls:VCallsG P f args S.hp g R) (hK:∀ r h' g',R r h' g'->K ((S.at h').put o.dst (Qc0 o.guard true r)) g'):OpG P (Qa1 c) ops o K S g:=fun n Q next O β a w hs hn=>by
 rw[Qey hs hG,if_pos rfl]
 have hnd:=Qd7 hc
 have hev:∀ x,RelD w β S.hp (Qn true (S.ev x)) (a.eval x):=QzT hs
 unfold Qo at hc
 split at hc
 ·rename_i cl hop
  split at hc
  ·rename_i fo hcal
   split at hc
   ·rename_i g' first cap hfn
    simp at hc
    obtain⟨rfl,rfl⟩:=hc
    have hf':RelD w β S.hp ((fun x=>Qn true (S.ev x)) fo) (a.eval fo):=hev fo
    rw[hfn] at hf'
    generalize hv:a.eval fo=fv at hf'
    cases hf' with
    | fn _ _ _ vs us l1 l2 r1 r2 =>
      have hrel:RelL w β S.hp (first++cl.args.toList.map (fun x=>Qn true (S.ev x))++cap) (vs++cl.args.map a.eval++us):=Qbm (Qbm ⟨l1,r1⟩ (QeS hev cl.args)) ⟨l2,r2⟩
      obtain⟨fn,h1,h2,h3⟩:=hcalls.fn
      have h4:=hcalls.run O w β (vs++cl.args.map a.eval++us) hs.evo hs.heap (by simpa using hrel) hs.g.1
      have hrun:(execOp a.eval o).run P w=.ok (.enter g' (vs++cl.args.map a.eval++us)) w:=by
       simp[execOp,hop,resolve,hcal,hv,Deferred.ofValue,invoke,QdB h1 h2 h3]
      refine⟨fun _ _=>trivial,?_⟩
      rw[Oper.semAt_plain _ _ _ hnd,hrun,Oper.uponIn_enter]
      refine⟨fun h=>by simp[Fence.wide] at h,CallsIn.mono (F:=wd none) (callsIn_wide.2 h4) ?_⟩
      rintro e w' ⟨v,r,h',β',gh',rfl,k1,k2,k3,k4,k5⟩
      refine hn β' _ gh' _ w' ?_ (hK r h' gh' k5)
      refine⟨by rw[QfG]; exact hs.defers,by rw[QeT,St.put_nt]; exact hs.size,fun t=>?_,by rw[St.put_hp]; exact k2,by rw[St.put_hp]; exact k1,by rw[St.put_hp]; exact⟨k4.1,hs.g.2.trans k4.2⟩⟩
      rw[St.put_hp]
      have hd:=Qaj (g:=o.guard) k3
      cases hdst:o.dst with
      | none=>exact(hs.tm t).monoC k4.2
      | some t0 =>
        have hlt:t0<a.tmps.size:=by rw[hs.size]; rw[hdst] at hf; simpa [St.fits] using hf
        simp only[St.put,look,Act.put,St.at]
        split
        ·rename_i e
         subst e
         simpa [JC,hlt] using hd
        ·rename_i e
         have:=(hs.tm t).monoC k4.2
         simpa [JC,Kv,e] using this
   ·simp at hc
  ·simp at hc
 ·simp at hc
def Qct (P:Program) (rs:List ResultVar) (R:DV->Qa->MapsD->Prop) (e:Exit) (S:St) (g:MapsD):Prop :=
 match e with
 | .normal | .ret=>match QM P S rs with
   | some d=>R d S.hp g
   | none=>False
 | _=>False
theorem Qpt:Qct P rs R .ret S g=Qax P rs (fun d h=>R d h g) .ret S:=by
 unfold Qct Qax; cases QM P S rs<;>rfl
theorem Q3 (hf:P.funcs[g]? = some fn) (hb:fn.body = some cd) (hname:(fn.name == "runtime.NumGoroutine") = false) (hn:args.length<=fn.ntmps) (hc:∀ c:Qkt,VWpG P (Qa1 c) cd (Qct P fn.results.toList R) ⟨fn.ntmps,h.length,QgM 0 args,h⟩ gh):VCallsG P g args h gh R:=by
 refine⟨⟨fn,hf,hname,by rw[hb]; rfl⟩,fun O w β vs he hh ha hg=>?_⟩
 refine callsIn_wide.1 (callsIn_of_wp_marks (n:=1) hf hb trivial (wpIn_wide.2 ?_))
 have hsz:vs.size=args.length:=ha.1.symm
 have hs:SimG (Qa1 (w,β,h) gh) ⟨O.w,O.β,O.hp,[]⟩ β ⟨fn.ntmps,h.length,QgM 0 args,h⟩ { tmps:=vs ++ Jq (fn.ntmps - vs.size) undef,defers:=[] } w:=by
  refine⟨rfl,by simp; omega,fun t=>?_,hh,he,hg,EvoC.refl w β h⟩
  rw[Qht,if_pos (JE _),Ui]
  cases ht:args[t]? with
  | none=>exact .any _
  | some d =>
    have hlt:t<vs.size:=by rw[hsz]; exact(Jb.1 ht).1
    have e:(vs++Jq (fn.ntmps-vs.size) undef).getD t undef=vs.getD t undef:=by
     simp only[JC]; rw[KB hlt]
    show RelD w β h d ((vs++Jq (fn.ntmps-vs.size) undef).getD t undef)
    rw[e]
    exact ha.2 t d ht
 refine wp_mono (hc (w,β,h) _ β _ w hs) fun e a' w' hq=>?_
 obtain⟨β',S',g',hs',hq⟩:=hq
 have key:(∃ d,QM P S' fn.results.toList=some d/\R d S'.hp g')->LeavesInM Fence.wide 1 P fn a'.tmps (fun e w'=>∃ v r h' β' gh',e=.returned v/\Evo O.w O.β O.hp w' β' h'/\HeapRel w' β' h'/\RelD w' β' h' r v/\MapsD.At (w,β,h) gh' O.w w' β' h'/\R r h' gh') a'.defers .returning w':=by
  rintro⟨d,hr,hend⟩
  obtain⟨v,r1,r2⟩:=Qci (P:=P) (fn:=fn) (d:=d) hs'.reb (by
   have e:Qkv P S'.reb=Qkv P S':=by funext r; cases r<;>rfl
   unfold QM at hr |-
   rw[e]; exact hr)
  have hd0:a'.defers=[]:=hs'.defers
  rw[hd0]
  exact⟨v,r1,v,d,S'.hp,β',g',rfl,hs'.evo,hs'.heap,r2,hs'.g,hend⟩
 unfold Qct at hq
 cases e with
 | normal =>
   dsimp only at hq
   split at hq
   ·rename_i d hd; exact key ⟨d,hd,hq⟩
   ·exact hq.elim
 | ret =>
   dsimp only at hq
   split at hq
   ·rename_i d hd; exact key ⟨d,hd,hq⟩
   ·exact hq.elim
 | _=>exact hq.elim
theorem Qec(hf:P.funcs[g]?=some fn)(hb:fn.body=some cd)(hname:(fn.name == "runtime.NumGoroutine")=false)(hn:args.length<=fn.ntmps)(hc:∀ c:Qkt,VWpG P (Qa1 c) cd (fun e S _=>Qfu P fn.results.toList h.length R e S) ⟨fn.ntmps,h.length,QgM 0 args,h⟩ []):VCalls P g args h R:=
 Qm3 hf hb hname hn fun O β a w hs hd=>wp_mono (hc (w,β,h) O β a w ⟨hd,hs.size,hs.tm,hs.heap,hs.evo,⟨by simp,by simp⟩,EvoC.refl w β h⟩) fun _ _ _ ⟨β',S',_,h',q⟩=>⟨β',S',⟨h'.size,h'.tm,h'.heap,h'.evo,.inl h'.defers⟩,q⟩
theorem QgW(hf:P.funcs[g]?=some fn)(hb:fn.body=some c)(hname:(fn.name == "runtime.NumGoroutine")=false)(hn:args.length<=fn.ntmps)(hc:∀ c':Qkt,VWpG P (Qa1 c') c (Qct P fn.results.toList fun d h _=>R d h) ⟨fn.ntmps,h.length,QgM 0 args,h⟩ []):VCalls P g args h R:=by
 have:=Q3 (P:=P) (gh:=[]) hf hb hname hn hc
 refine⟨fun w β vs hh ha=>.inl ⟨fn,hf,hname,by rw[hb]; rfl,?_⟩⟩
 refine(this.run ⟨w,β,h,[]⟩ w β vs (Evo.refl w β h) hh ha ⟨by simp,by simp⟩).mono fun _ _ ⟨v,r,h',β',gh',k1,k2,k3,k4,k5,k6⟩=>⟨v,r,h',β',k1,k2,k3,k4,k6⟩
theorem WeakG.slots (hn:S.nt = S'.nt) (hh:S.hp = S'.hp) (ht:∀ p ∈ S'.tm,look S.tm p.1 = p.2\/p.2 = .any):WeakG Γ S g S' g:=fun O β a w hs=>by
 refine⟨β,hs.defers,by rw[<- hn]; exact hs.size,fun t=>?_,by rw[<- hh]; exact hs.heap,by rw[<- hh]; exact hs.evo,by rw[<- hh]; exact hs.g⟩
 have key:∀ (l:List (Nat × DV)),(∀ p ∈ l,look S.tm p.1 = p.2\/p.2 = .any)->RelD w β S.hp (look l t) (a.tmps.getD t undef):=by
  intro l
  induction l with
  | nil=>intro _; exact .any _
  | cons p r ih =>
    intro h
    simp only[look]
    split
    ·rename_i e
     subst e
     rcases h p (by simp) with h | h
     ·rw[<- h]; exact hs.tm _
     ·rw[h]; exact .any _
    ·exact ih fun q hq=>h q (KW _ hq)
 rw[<- hh]
 exact key _ ht
theorem QA(h:k<hp.length):Qc (hp++r) k=Qc hp k:=by unfold Qc; rw[Jh h]
theorem Qkl(h:hp.length<=k):Qc (hp++r) k=Qc r (k-hp.length):=by unfold Qc; rw[Jo h]
theorem Qkm:Qc (hp++r) hp.length=Qc r 0:=by rw[Qkl (Jm _),K6]
theorem Qap:(Ql hp k cs).length=hp.length:=by unfold Ql; split<;>simp
theorem QpT(h:k<hp.length):Ql (hp++r) k cs=Ql hp k cs++r:=by
 unfold Ql
 rw[Jh h]
 cases hp[k]? with
 | some B=>exact KX _ _ h
 | none=>rfl
theorem QpS(h:hp.length<=k):Ql (hp++r) k cs=hp++Ql r (k-hp.length) cs:=by
 unfold Ql
 rw[Jo h]
 cases r[k-hp.length]? with
 | some B=>exact List.set_append_right _ _ h
 | none=>rfl
theorem Qyl:(kill hp k).length=hp.length:=QK hp k
theorem QnP(h:j≠k):(kill hp j)[k]?=hp[k]?:=by
 unfold kill
 split
 ·rw[J1 h]
 ·rfl
theorem QbQ(h:j≠k):(Ql hp j cs)[k]?=hp[k]?:=by
 unfold Ql
 split
 ·rw[J1 h]
 ·rfl
theorem Qi6(h:j≠k):Qc (Ql hp j cs) k=Qc hp k:=by unfold Qc; rw[QbQ h]
theorem QaB:Qc (Ql hp k cs) k = (Qc hp k).map fun _=>cs:=by
 unfold Ql Qc
 cases hb:hp[k]? with
 | none=>simp[hb]
 | some B =>
   have hlt:=(Jb.1 hb).1
   simp only[Ka hlt]
   split<;>rfl
theorem Qyx{hp r:Qa}{k:Nat}(h:k<hp.length):(hp++r)[k]?=hp[k]?:=Jh h
theorem Qj7{hp r:Qa}{k:Nat}(h:hp.length<=k):(hp++r)[k]?=r[k-hp.length]?:=Jo h
theorem Quh{hp:Qa}{k j:Nat}{B:Blk}(h:k≠j):(Ub hp k B)[j]?=hp[j]?:=J1 h
theorem QoQ(h:k≠j):Qc (Ub hp k B) j=Qc hp j:=by unfold Qc; rw[J1 h]
theorem Qya{hp r:Qa}{k:Nat}{B:Blk}(h:k<hp.length):Ub (hp++r) k B=Ub hp k B++r:=KX _ _ h
theorem Qx9{hp:Qa}{k:Nat}{B:Blk}:(Ub hp k B).length=hp.length:=Jw
end Go.V
namespace Go.V
variable {P:Program} {γ:Type} {Γ:γ->World->World->Map->Qa->Prop}
@[congr] def QC5(c:Code)(Q:Exit->St->γ->Prop)(g:γ)(h:S=S'):VWpG P Γ c Q S g=VWpG P Γ c Q S' g:=by rw[h]
@[congr] def QCH(o:Oper)(K:St->γ->Prop)(g:γ)(h:S=S'):Qku P Γ o K S g=Qku P Γ o K S' g:=by rw[h]
@[congr] def QEl(ops:Array Oper)(o:Oper)(K:St->γ->Prop)(g:γ)(h:S=S'):OpG P Γ ops o K S g=OpG P Γ ops o K S' g:=by rw[h]
@[congr] def QDr(ops:Array Oper)(K:St->Prop)(h:S=S'):QFu P ops K S=QFu P ops K S':=by rw[h]
@[congr] def QDd(ops:Array Oper)(ch:List (List Oper×Option Oper))(K:St->γ->Prop)(g:γ)(h:S=S'):QAm P Γ ops ch K S g=QAm P Γ ops ch K S' g:=by rw[h]
@[congr] def Qz5(g:γ)(S':St)(g':γ)(h:S1=S1'):WeakG Γ S1 g S' g'=WeakG Γ S1' g S' g':=by rw[h]
@[congr] def QDh(ops:Array Oper)(k:Nat)(K:St->Prop)(h:S=S'):QFB P ops k K S=QFB P ops k K S':=by rw[h]
theorem QAw(ops:Array Oper)(k:Nat)(K:St->Prop)(nt base:Nat)(tm:List (Nat×DV))(hp:Qa):QFB P ops k K ⟨nt,base,tm,hp⟩=vdr P (QaC ops k).toList (ops.toList.drop (k+1)) (JF (k+1) ([],false)) K ⟨nt,base,tm,hp⟩:=rfl
theorem QnA (after:Array Edge) (f:List Nat × Bool) (m:Nat) (r:List (List Nat × Bool)):∀ n,QR after f n (JF m ([],false) ++ r) = QR after f (n + m) r:=by
 induction m with
 | zero=>intro n; simp
 | succ m ih =>
   intro n
   rw[Ki,Kh,QlI,ih,show n+1+m=n+(m+1) by omega]
theorem QlN(after:Array Edge)(f:List Nat×Bool)(m:Nat)(n:Nat):QR after f n (JF m ([],false))=true:=by
 have:=QnA after f m [] n
 rw[KN] at this
 rw[this]; rfl
theorem QnB (after:Array Edge) (f:List Nat × Bool) (a b:List (List Nat × Bool)):∀ n,QR after f n (a ++ b) = (QR after f n a && QR after f (n + a.length) b):=by
 induction a with
 | nil=>intro n; simp[QR]
 | cons x r ih =>
   intro n
   rw[Kh]
   unfold QR
   rw[ih,Bool.and_assoc,Jc,show n+1+r.length=n+(r.length+1) by omega]
   congr 2
   cases hb:b<;>simp[QR]
theorem Qgm(Q:Exit->St->γ->Prop)(K:St->γ->Prop)(S:St)(g:γ):QcA Q K .normal S g=K S g:=rfl
theorem QjO(Q:Exit->St->γ->Prop)(K:St->γ->Prop)(S:St)(g:γ):QcA Q K .ret S g=Q .ret S g:=rfl
theorem Qie(Q:Exit->St->γ->Prop)(K:St->γ->Prop)(id:Nat)(S:St)(g:γ):QcA Q K (.exit id) S g=Q (.exit id) S g:=rfl
theorem Qhn(id:Nat)(Q:Exit->St->γ->Prop)(S:St)(g:γ):QeX id Q .normal S g=Q .normal S g:=rfl
theorem QlH(id:Nat)(Q:Exit->St->γ->Prop)(S:St)(g:γ):QeX id Q .ret S g=Q .ret S g:=rfl
theorem QjP(id id':Nat)(Q:Exit->St->γ->Prop)(S:St)(g:γ):QeX id Q (.exit id') S g=if id'=id then Q .normal S g else Q (.exit id') S g:=rfl
theorem QEb(nt base:Nat)(tm:List (Nat×DV))(hp:Qa):St.reb ⟨nt,base,tm,hp⟩=⟨nt,hp.length,tm,hp⟩:=rfl
attribute [go_sem] QAw QnB QlN Qgm QjO Qie Qhn QlH QjP QEb Qpt Ji QA QpT Qyx QaB Qkl Qj7 QpS K6 Quh QoQ Qya
def Qrp(P:Program)(T:TypeId):Option Value:=(P.info? T).bind (·.zero)
theorem Qai (h:Qrp P T = some z):∀ w,(zeroValue T).run P w = .ok z w:=fun w=>by
 unfold Qrp at h
 cases hi:P.info? T with
 | none=>rw[hi] at h; cases h
 | some i =>
   rw[hi] at h
   have h':i.zero=some z:=h
   simp[zeroValue,typeInfo,hi,h']
theorem QaQ(h:v.oneCell'=true):∀ (w:World) (β:Map) (hp:Qa),RelD w β hp (.pv (.lit v)) v:=fun _ _ _=>.pv _ _ (.lit _ h)
abbrev kI:Int->Value:=fun x=>.int .i64 x
theorem Qaf{κ:Type}{enc:κ->Value}{k:κ}{d:DV}(h:d=.pv (.lit (enc k))):∀ (w:World) (β:Map) (hp:Qa) (v:Value),RelD w β hp d v->v=enc k:=fun w β hp v hr=>by
 subst h
 exact Qk hr
end Go.V
namespace Go.V
def VCalls.lendN(ha:Qi (args.map (QmM hp))=some args0)(c:VCalls P g args0 [] (QhY (fun _=>false) [] sz n T cs))(hcs:∀ d∈cs,d.flat=true):
 VCalls P g args hp fun r h'=>r=.own hp.length sz 0 n/\h'=hp++[⟨T,true,cs⟩]:=by
 refine⟨fun w β vs hh hr=>?_⟩
 let βc:Map:=⟨fun _=>none,β.X⟩
 have himc:∀ b,img βc [] b->β.X b:=fun b hb=>by
  rcases hb with hb | ⟨i,D,h1,_⟩
  ·exact hb
  ·simp at h1
 have hlv:Leaves w β hp 0 (img βc []):=⟨fun b hb=>.inl (himc b hb),fun k B b _ h1 h2 h3 hb=>hh.avoid k B b h1 h2 h3 (himc b hb)⟩
 have hhc:HeapRel w βc []:=⟨by simp,by simp,by simp,by simp,hh.bound⟩
 obtain⟨a1,a2⟩:=Qx ha
 have hargs:RelL w βc [] args0 vs:=by
  refine⟨by rw[a1]; simpa using hr.1,fun i d hd=>?_⟩
  have h3:=a2 i d hd
  rw[Jd] at h3
  obtain⟨x,x1,x2⟩:=Qy h3
  exact QfR hh hlv (hr.2 i x x1) x2
 refine(c.run w βc vs hhc hargs).mono ?_
 rintro e w' ⟨v,r,h',β',rfl,ev,hh',hrel,rfl,rfl⟩
 have heap_same:∀ b,b<w.heap.size->w'.heap[b]?=w.heap[b]?:=fun b hb=>ev.same b hb (by rintro⟨k,B,h1,_⟩; simp at h1)
 have eh:(QcM (fun _=>false) ([]:Qa)++[⟨T,true,cs⟩])=[⟨T,true,cs⟩]:=rfl
 rw[eh] at hh' ev hrel
 have fresh:∀ b,β'.f 0=some b->w.heap.size<=b:=fun b hb=>by
  by_cases hlt:b<w.heap.size
  ·obtain ⟨k,B,h1,_⟩:=ev.im b hlt ⟨0,_,rfl,rfl,hb⟩
   simp at h1
  ·omega
 let βn:Map:=⟨fun k=>if k=hp.length then β'.f 0 else β.f k,β.X⟩
 have hold:∀ k,k<hp.length->βn.f k=β.f k:=fun k hk=>if_neg (by omega)
 have hnew:βn.f hp.length=β'.f 0:=if_pos rfl
 have hX:β'.X=β.X:=ev.X
 have blkb:∀ k B b,hp[k]?=some B->B.live=true->β.f k=some b->b<w.heap.size:=fun k B b h1 h2 h3=>by
  obtain⟨C,g1,_⟩:=hh.blk k B b h1 h2 h3
  exact(Je.1 g1).1
 have e:Evo w β hp w' βn (hp++[⟨T,true,cs⟩]):=by
  refine⟨ev.os,ev.tape,ev.output,ev.size,by simp,hold,fun b hb _=>heap_same b hb,fun b C T m h=>⟨C,m,by rw[heap_same b (Je.1 h).1]; exact h,rfl⟩,?_,rfl⟩
  rintro b hb ⟨k,B,h1,h2,h3⟩
  by_cases hk:k<hp.length
  ·rw [Jh hk] at h1
   exact⟨k,B,h1,h2,by rw[<- hold k hk]; exact h3⟩
  ·have hkl:=(Jb.1 h1).1
   have:k=hp.length:=by simp at hkl; omega
   subst this
   rw[hnew] at h3
   have:=fresh b h3
   omega
 refine⟨v,_,hp++[⟨T,true,cs⟩],βn,rfl,e,?_,?_,rfl,rfl⟩
 ·have split:∀ k (B:Blk),(hp ++ [(⟨T,true,cs⟩:Blk)])[k]? = some B->(k < hp.length/\hp[k]? = some B)\/(k = hp.length/\B = ⟨T,true,cs⟩):=fun k B h=>by
   by_cases hk:k<hp.length
   ·rw[Jh hk] at h; exact .inl ⟨hk,h⟩
   ·have hkl:=(Jb.1 h).1
    have:k=hp.length:=by simp at hkl; omega
    subst this
    rw[Jo (Jm _),K6] at h
    simp at h
    exact .inr ⟨rfl,h.symm⟩
  refine⟨fun k B b h1 h2 h3=>?_,fun k B h1 h2 h3=>?_,fun i j B B' b h1 h2 h3 h4 h5 h6=>?_,fun k B b h1 h2 h3=>?_,fun b hb=>Jj (hh.bound b hb) ev.size⟩
  ·rcases split k B h1 with ⟨hk,h1'⟩ | ⟨rfl,rfl⟩
   ·rw [hold k hk] at h3
    obtain⟨C,g1,g2,g3⟩:=hh.blk k B b h1' h2 h3
    exact⟨C,by rw[heap_same b (Je.1 g1).1]; exact g1,g2,fun i d hd=>⟨(g3 i d hd).1,(g3 i d hd).2.mono e⟩⟩
   ·rw [hnew] at h3
    obtain⟨C,g1,g2,g3⟩:=hh'.blk 0 _ b rfl rfl h3
    exact⟨C,g1,g2,fun i d hd=>⟨(g3 i d hd).1,(g3 i d hd).2.flat (hcs d (KV hd))⟩⟩
  ·rcases split k B h1 with ⟨hk,h1'⟩ | ⟨rfl,rfl⟩
   ·rw[hold k hk] at h3; exact hh.none k B h1' h2 h3
   ·rw[hnew] at h3; exact hh'.none 0 _ rfl rfl h3
  ·rcases split i B h1 with ⟨hi,h1'⟩ | ⟨rfl,rfl⟩
   ·rw [hold i hi] at h5
    rcases split j B' h2 with⟨hj,h2'⟩ | ⟨rfl,rfl⟩
    ·rw[hold j hj] at h6; exact hh.inj i j B B' b h1' h2' h3 h4 h5 h6
    ·rw [hnew] at h6
     have:=fresh b h6
     have:=blkb i B b h1' h3 h5
     omega
   ·rw [hnew] at h5
    rcases split j B' h2 with⟨hj,h2'⟩ | ⟨rfl,rfl⟩
    ·rw [hold j hj] at h6
     have:=fresh b h5
     have:=blkb j B' b h2' h4 h6
     omega
    ·rfl
  ·rcases split k B h1 with ⟨hk,h1'⟩ | ⟨rfl,rfl⟩
   ·rw[hold k hk] at h3; exact hh.avoid k B b h1' h2 h3
   ·rw [hnew] at h3
    have:=hh'.avoid 0 _ b rfl rfl h3
    rw[hX] at this
    exact this
 ·have hl:hp.length < (hp ++ [(⟨T,true,cs⟩:Blk)]).length:=by simp
  have:RelD w' β' [⟨T,true,cs⟩] (.own 0 sz 0 n) v:=hrel
  cases this with
  | own _ _ _ _ cap b C T m h1 h2 h3 h4 h5 h6=>exact .own _ _ _ _ cap b C T m hl (by rw[hnew]; exact h2) h3 h4 h5 h6
  | own0 _ _ a h1 h2 h3=>exact .own0 _ _ a hl (by rw[hnew]; exact h2) h3
def Qgr(c:VCalls P g args0 [] (QhY (fun _=>false) [] sz n T cs))(ha:Qi (args.map (QmM hp))=some args0)(hcs:∀ d∈cs,d.flat=true)(h:K (.own hp.length sz 0 n) (hp++[⟨T,true,cs⟩])):VCalls P g args hp K:=(VCalls.lendN ha c hcs).mono fun r h' e=>by obtain⟨rfl,rfl⟩:=e; exact h
def QqZ (e:Enc α) (l:List α) (h:∀ a ∈ l,∀ p ∈ e.enc a,(DV.pv p).flat = true):∀ d ∈ cells e l,d.flat = true:=by
 induction l with
 | nil=>intro d hd; simp[cells] at hd
 | cons a r ih =>
   intro d hd
   rw[QL] at hd
   rcases Kj.1 hd with hd | hd
   ·obtain ⟨p,hp,rfl⟩:=J4.1 hd
    exact h a (by simp) p hp
   ·exact ih (fun x hx=>h x (KW _ hx)) d hd
end Go.V
namespace Go.V
variable {P:Program} {γ:Type} {Γ:γ->World->World->Map->Qa->Prop}
def QCI (l:List Oper):List Nat->List (List Oper × Option Oper)
 | []=>[(l,none)]
 | k :: r=>match l[k]? with
   | some o=>(l.take k,some o)::QCI (l.drop (k+1)) r
   | none=>[(l,none)]
theorem Qo5:∀ (ks:List Nat) (l:List Oper),Qby (QCI l ks) = l
 | [],l=>by simp[QCI,Qby]
 | k :: r,l=>by
   unfold QCI
   cases h:l[k]? with
   | none=>simp[Qby]
   | some o =>
     simp only[Qby,Qo5 r]
     have hlt:=(Jb.1 h).1
     have e:l[k]=o:=(Jb.1 h).2
     conv=>rhs; rw[<- List.take_append_drop k l]
     congr 1
     rw[List.drop_eq_getElem_cons hlt,e]
def QkK(P:Program)(Γ:γ->World->World->Map->Qa->Prop)(ops:Array Oper)(l:List Oper)(ks:List Nat)(K:St->γ->Prop)(S:St)(g:γ):Prop:=QAm P Γ ops (QCI l ks) K S g
def QrV(P:Program)(Γ:γ->World->World->Map->Qa->Prop)(ops:Array Oper)(x:Option Oper)(A B:List Oper)(ks:List Nat)(K:St->γ->Prop)(S:St)(g:γ):Prop:=match x with
 | some o=>Qbi P ops.toList A (fun S1=>OpG P Γ ops o (QkK P Γ ops B ks K) S1 g) S.reb
 | none=>False
theorem QrU(ops:Array Oper)(l:List Oper)(K:St->γ->Prop)(S:St)(g:γ):QkK P Γ ops l [] K S g=Qbi P ops.toList l (fun S1=>K S1 g) S.reb:=rfl
theorem Qpw(ops:Array Oper)(o:Oper)(A B:List Oper)(ks:List Nat)(K:St->γ->Prop)(S:St)(g:γ):QrV P Γ ops (some o) A B ks K S g=Qbi P ops.toList A (fun S1=>OpG P Γ ops o (QkK P Γ ops B ks K) S1 g) S.reb:=rfl
@[congr] def QAl(ops:Array Oper)(ks:List Nat)(K:St->γ->Prop)(S:St)(g:γ)(h1:x=x')(h2:A=A')(h3:B=B'):QrV P Γ ops x A B ks K S g=QrV P Γ ops x' A' B' ks K S g:=by rw[h1,h2,h3]
@[congr] def QAk(ops:Array Oper)(l:List Oper)(ks:List Nat)(K:St->γ->Prop)(g:γ)(h:S=S'):QkK P Γ ops l ks K S g=QkK P Γ ops l ks K S' g:=by rw[h]
theorem VWpG.cut(hΓ:∀ g,Stable (Γ g)){id:Nat}(ks:List Nat)(h:QkK P Γ ops ops.toList ks (Q .normal) S g):VWpG P Γ (.region id ops false) Q S g:=
 VWpG.region hΓ (QCI ops.toList ks) (Qo5 ks _).symm h
theorem QbF(h:QrV P Γ ops l[k]? (l.take k) (l.drop (k+1)) ks K S g):QkK P Γ ops l (k::ks) K S g:=by
 unfold QkK QCI
 cases e:l[k]? with
 | none=>rw[e] at h; exact h.elim
 | some o=>rw[e] at h; exact h
theorem VWpG.cut1(hΓ:∀ g,Stable (Γ g)){id:Nat}(k:Nat)(ks:List Nat)(h:QrV P Γ ops ops.toList[k]? (ops.toList.take k) (ops.toList.drop (k+1)) ks (Q .normal) S g):VWpG P Γ (.region id ops false) Q S g:=VWpG.cut hΓ (k::ks) (QbF h)
attribute [go_sem ↓] QrU Qpw
theorem Qkf(hΓ:∀ g,Stable (Γ g))(hf:S.fits o.dst=true)(h:∀ (w:World) (β:Map) (ρ:Operand->Value),HeapRel w β S.hp->(∀ x,RelD w β S.hp (Qn true (S.ev x)) (ρ x))->Qfq P w β S.hp (execOp ρ o) d hp')(hK:K ((S.at hp').put o.dst (Qc0 o.guard true d)) g):Qku P Γ o K S g:=fun O β a w hs=>by
 have e:∀ x,S.reb.ev x=S.ev x:=fun x=>by cases x<;>rfl
 obtain⟨v,w',β',h1,h2,h3,h4⟩:=h w β a.eval hs.heap (fun x=>by have:=Qab (hs.reb.ev x) (G:=true) rfl; rw[e] at this; exact this)
 have hs':=hs.reb.step (dst:=o.dst) h2 h3 (Qaj (g:=o.guard) h4) hf
 refine⟨v,w',h1,β',_,g,?_,hK⟩
 have:=hs.on (hΓ g) hs'
 cases hd:o.dst with
 | none=>rw[hd] at this; exact⟨this.defers,this.size,this.tm,this.heap,this.evo,this.g⟩
 | some t=>rw[hd] at this; exact⟨this.defers,this.size,this.tm,this.heap,this.evo,this.g⟩
theorem Qh7(hh:HeapRel w β hp)(he:QG P sT=some (none,e,sz))(hint:Ql4 P xT=true)(hib:QaP P e=some by_)(hz:QQ P e=some z)(hl0:0<l)(hl1:l<=1000000000)(hszp:0<sz)(hzl:z.length=sz)(hzo:Qq z=true)(hbp:0<by_)(hby:l.toNat*by_<=140737488355328):
 Does P w β hp (Builtin.append_ #[sT,xT] ty #[.slice a 0 0,.int kx l]) (.own hp.length sz 0 l.toNat) (hp++[⟨e,true,mk z l.toNat⟩]):=by
 obtain⟨i,hi,rfl⟩:=Qb8 hib
 obtain⟨hu,i',hi',rfl⟩:=Qr he
 rw[hi] at hi'
 simp at hi'
 subst hi'
 obtain⟨kn,hxu⟩:∃ kn,P.underlying xT=some (.int kn):=by
  unfold Ql4 at hint
  split at hint
  ·exact⟨_,by assumption⟩
  ·cases hint
 obtain⟨zv,_,⟨i2,hi2,hz2⟩,hzr⟩:=Q6 hz w β hp
 rw[hi] at hi2
 simp at hi2
 subst hi2
 have hzs:zv.cells.size=i.size:=by rw[<- hzr.1,hzl]
 have hmax:0+l.toNat<=maxLen:=by
  have:l.toNat<=l.toNat*i.bytes:=Nat.le_mul_of_pos_right _ hbp
  simp[maxLen]; omega
 obtain⟨g1,g2⟩:=QfD hzr (by omega) l.toNat (l.toNat*zv.cells.size) (by rw[hzr.1]; exact Jm _)
 have hml:(mk z l.toNat).length=(madeCells zv.cells (l.toNat*zv.cells.size)).size:=by rw[Qak,size_madeCells,hzr.1]
 have hrun:=Qc1 (P:=P) (w:=w) (ty:=ty) (k:=kx) (a:=a) (n:=0) (cap:=0) (olds:=#[]) hu hxu hi hz2 (by cases a<;>simp[Builtin.firstCells,loadCells,loadCellsFrom]) hl0 hl1 hszp (by omega) hbp (by rw[Ju]; exact hby)
 rw[Qd6 l.toNat] at hrun
 obtain⟨β',r1,r2,r3⟩:=QbS (cap:=0) (sz:=i.size) (e:=e) (z:=zv) (n:=0) (m:=l.toNat) hh (Evo.refl w β hp) rfl (olds:=[]) (ov:=#[]) ⟨rfl,by simp⟩ (news:=mk z l.toNat) (nv:=madeCells zv.cells (l.toNat*zv.cells.size)) ⟨hml,g2⟩ (fun d hd=>by
  rcases Kj.1 hd with hd | hd
  ·simp at hd
  ·obtain ⟨j,hj⟩:=List.mem_iff_getElem?.1 hd
   exact QbT (QcO hzo _) j d hj) (by simp) (by rw[Qak,hzl]) hzs hmax _ rfl
 simp only[Ju,KO] at r1 r2 r3
 exact⟨_,_,β',by rw[Ju] at hrun; exact hrun,r1,r2,r3⟩
theorem QF7 (h:RelD w β hp (.pv (.slc [])) v):∃ a,v = .slice a 0 0:=by
 cases h with
 | pv _ _ h=>cases h with
   | slc xs a sz val h1 h2 h3 h4 h5=>exact⟨a,rfl⟩
theorem QwV(w:World)(β:Map)(hp:Qa)(a:Option Addr):RelD w β hp (.pv (.slc [])) (.slice a 0 0):=.pv _ _ (.slc [] a 0 (fun _ _=>undef) (JE _) (by simp) (fun _ _ h0=>absurd h0 (by simp)) (by simp) (by simp))
theorem Qmu{S:St}(hop:o.op=.call ⟨.builtin .cap,#[x],#[T]⟩)(he:QG P T=some (none,e,sz))(hx:Qn true (S.ev x)=.pv (.slc [])):
 ∀ (w:World) (β:Map) (ρ:Operand->Value),HeapRel w β S.hp->(∀ x,RelD w β S.hp (Qn true (S.ev x)) (ρ x))->Qfq P w β S.hp (execOp ρ o) (.int .i64 0) S.hp:=fun w β ρ hh hρ=>by
 have h1:=hρ x
 rw[hx] at h1
 obtain⟨a,ha⟩:=QF7 h1
 obtain⟨hu,i',hi',rfl⟩:=Qr he
 refine⟨.int .i64 0,w,β,.inl ?_,Evo.refl _ _ _,hh,.pv _ _ (.lit _ rfl)⟩
 simp[execOp,hop,resolve,invoke,builtin,Builtin.cap_,run_underlying hu,ha,goInt]
theorem Qni{S:St}(hop:o.op=.slice T x none (some y) none)(he:QG P T=some (none,e,sz))(hx:Qn true (S.ev x)=.pv (.slc []))(hy:Qn true (S.ev y)=.int .i64 0):
 ∀ (w:World) (β:Map) (ρ:Operand->Value),HeapRel w β S.hp->(∀ x,RelD w β S.hp (Qn true (S.ev x)) (ρ x))->Qfq P w β S.hp (execOp ρ o) (.pv (.slc [])) S.hp:=fun w β ρ hh hρ=>by
 have h1:=hρ x
 rw[hx] at h1
 have h2:=hρ y
 rw[hy] at h2
 obtain⟨a,ha⟩:=QF7 h1
 have hyv:=Qk h2
 obtain⟨hu,i',hi',rfl⟩:=Qr he
 have h1:=Qbv (P:=P) (w:=w) (β:=β) (hp:=S.hp) (y:=0) (len:=0) (b:=0) (hi:=some (.int .i64 0)) (hv:=some (.int .i64 0)) (code:=if true then BoundsCode.sliceAcap else .sliceAlen) rfl (fun d h=>⟨_,rfl,by cases h; exact .pv _ _ (.lit _ rfl)⟩) (by simp) (by omega)
 have hr:=Qa0 (isSl:=true) (len:=0) (a:=0) (cap:=0) (by omega) h1 (.inl ⟨rfl,rfl⟩)
 refine⟨.slice a 0 0,w,β,.inl ?_,Evo.refl _ _ _,hh,QwV _ _ _ a⟩
 simp[execOp,hop,ha,hyv,Instr.sliceAt,Instr.slice,run_underlying hu,hr,sizeOf,typeInfo,hi']
theorem QmA{S:St}(hop:o.op=.call ⟨.builtin .append,#[x,y],#[sT,xT]⟩)(he:QG P sT=some (none,e,sz))(hint:Ql4 P xT=true)(hib:QaP P e=some by_)(hz:QQ P e=some z)(hl0:0<l)(hl1:l<=1000000000)(hszp:0<sz)(hzl:z.length=sz)(hzo:Qq z=true)(hbp:0<by_)(hby:l.toNat*by_<=140737488355328)(hx:Qn true (S.ev x)=.pv (.slc []))(hy:Qn true (S.ev y)=.int .i64 l):
 ∀ (w:World) (β:Map) (ρ:Operand->Value),HeapRel w β S.hp->(∀ x,RelD w β S.hp (Qn true (S.ev x)) (ρ x))->Qfq P w β S.hp (execOp ρ o) (.own S.hp.length sz 0 l.toNat) (S.hp++[⟨e,true,mk z l.toNat⟩]):=fun w β ρ hh hρ=>by
 have h1:=hρ x
 rw[hx] at h1
 have h2:=hρ y
 rw[hy] at h2
 obtain⟨a,ha⟩:=QF7 h1
 have hyv:=Qk h2
 obtain⟨v,w',β',r1,r2,r3,r4⟩:=Qh7 (ty:=o.type) (a:=a) (kx:=.i64) hh he hint hib hz hl0 hl1 hszp hzl hzo hbp hby
 refine⟨v,w',β',.inl ?_,r2,r3,r4⟩
 simp[execOp,hop,resolve,invoke,builtin,ha,hyv,r1]
theorem VWpG.weakG(h:VWpG P Γ c Q S' g')(hw:WeakG Γ S g S' g'):VWpG P Γ c Q S g:=fun O β a w hs=>by
 obtain⟨β',h'⟩:=hw O β a w hs
 exact h O β' a w h'
theorem VWpG.mono(h:VWpG P Γ c Q S g)(hq:∀ e S g,Q e S g->Q' e S g):VWpG P Γ c Q' S g:=fun O β a w hs=>
 wp_mono (h O β a w hs) fun _ _ _ ⟨β',S',g',k1,k2⟩=>⟨β',S',g',k1,hq _ _ _ k2⟩
structure FrH(hp h':Qa)(A:Nat->Prop):Prop where
 len:hp.length<=h'.length
 same:∀ j,j<hp.length->¬ A j->h'[j]?=hp[j]?
theorem FrH.refl(hp:Qa)(A:Nat->Prop):FrH hp hp A:=⟨Jm _,fun _ _ _=>rfl⟩
theorem FrH.app(h:FrH hp h' A)(r:Qa):FrH hp (h'++r) A:=⟨by rw[Ji]; have:=h.len; omega,fun j hj ha=>by rw[Jh (Jj hj h.len)]; exact h.same j hj ha⟩
theorem FrH.set(h:FrH hp h' A)(hk:A k)(cs:List DV):FrH hp (Ql h' k cs) A:=⟨by rw[Qap]; exact h.len,fun j hj ha=>by rw[QbQ (fun e=>ha (by rw[<- e]; exact hk))]; exact h.same j hj ha⟩
theorem FrH.kill(h:FrH hp h' A)(hk:A k):FrH hp (kill h' k) A:=⟨by rw[Qyl]; exact h.len,fun j hj ha=>by rw[QnP (fun e=>ha (by rw[<- e]; exact hk))]; exact h.same j hj ha⟩
theorem FrH.trans(h:FrH hp h1 A)(g:FrH h1 h2 B)(hAB:∀ j,j<hp.length->B j->A j):FrH hp h2 A:=⟨KR h.len g.len,fun j hj ha=>by rw[g.same j (Jj hj h.len) (fun hb=>ha (hAB j hj hb))]; exact h.same j hj ha⟩
theorem Qi7(h:h'[k]?=hp[k]?):Qc h' k=Qc hp k:=by unfold Qc; rw[h]
end Go.V
namespace Go.V
open Go
def dd(hf:P.funcs[g]?=some fn)(hc:QB P c (Qfu P fn.results.toList h.length R) ⟨fn.ntmps,h.length,QgM 0 args,h⟩)(hb:fn.body=some c:=by exact rfl)(hname:(fn.name == "runtime.NumGoroutine")=false:=by kernel_rfl)(hn:args.length<=fn.ntmps:=by exact Nat.le_of_ble_eq_true rfl):VCalls P g args h R:=Qm2 hf hb hname hn hc
def dk(hf:P.funcs[g]?=some fn)(hc:QB P c (QkH P fn.results.toList h.length R) ⟨fn.ntmps,h.length,QgM 0 args,h⟩)(hb:fn.body=some c:=by exact rfl)(hname:(fn.name == "runtime.NumGoroutine")=false:=by kernel_rfl)(hn:args.length<=fn.ntmps:=by exact Nat.le_of_ble_eq_true rfl):VCalls P g args h R:=QkS hf hb hname hn hc
end Go.V
