/-
  Contracts of functions and plain laws. No condition.
-/
import Derived.Test.YtepdccfgnafgcaaGreatV2
import Derived.Lib.Builder
import Derived.Lib.Overlaps
import Derived.RangeFuncWrites
import Derived.RangeFuncLeaves
import Derived.RangeFuncCalls
import Derived.OwnWalkIn
import Derived.OrdersIn
import Derived.RangeFuncNested
set_option linter.unusedSimpArgs false
set_option linter.unusedVariables false
set_option linter.defProp false
set_option maxRecDepth 100000
set_option maxHeartbeats 8000000
set_option autoImplicit true
set_option relaxedAutoImplicit true
open Array renaming getElem?_eq_some_iff->Jh,getD_eq_getD_getElem?->Jo,replicate->JJ,eq_empty_of_size_eq_zero->JY,getElem?_append_left->J6,getElem?_eq_getElem->J7,ext->K2
open Bool renaming and_eq_true->Jl,and_eq_false_imp->JP,not_eq_eq_eq_not->JQ,or_eq_false_iff->JS,not_eq_false'->JT,or_eq_true->JV,not_eq_true'->JW,not_false->J0,not_true->J4,false_eq_true->Ke
open Int renaming reduceToNat->Jt,reduceNeg->JD,reduceAdd->JE,reduceSub->JF,reduceMul->JG,reduceBEq->JH,reduceBNe->JI,reduceLT->JM,reduceLE->JN,reduceEq->JO,toNat_natCast->Ki,not_lt->Kj,not_le->Kk
open List renaming length_cons->Ja,getElem?_eq_getElem->Jb,length_map->Jc,length_nil->Jd,getElem?_map->Je,getElem?_eq_some_iff->Jf,length_append->Jg,length_replicate->Jj,getD_eq_getElem?_getD->Jk,length_take->Jn,length_drop->Jp,length_set->Js,getElem?_append_left->Ju,getElem?_eq_none->Jv,map_cons->Jw,eq_nil_iff_forall_not_mem->JX,range->JZ,take_of_length_le->J1,getElem?_set->J3,getElem?_append_right->J5,all_eq_true->J8,getElem?_set_self->J9,range_eq_range'->Kb,replicate_succ->Kc,idxOf_lt_length_of_mem->Kd,mem_range->Kf,ext_getElem?->Kh,getElem?_cons_succ->Ko,map_append->Kp,mem_append->Kq,idxOf_cons->Ks,length_singleton->Kt,getElem?_set_ne->Kv,replicate->Kw,drop_zero->Kx,length->Kz,take_succ_cons->KB,drop_succ_cons->KC,getElem?_range->KD,mem_cons->KF,flatten_cons->KG,map_nil->KH,any_eq_true->KK,mem_toArray->KL,cons_append->KM,getElem_mem->KN,drop_left'->KQ,append_nil->KR,nil_append->KT,range_succ->KU,map_set->KW,mem_map->KX
open Nat renaming reduceAdd->Ji,le_refl->Jm,reduceLeDiff->Jq,reduceEqDiff->Jr,reduceMul->Jy,reduceSub->Jz,reduceBEq->JA,reduceDiv->JB,reducePow->JC,zero_add->JK,reduceLT->JL,lt_of_lt_of_le->JR,zero_le->J2,lt_trichotomy->Kg,not_lt->Kl,not_le->Km,not_lt_zero->Kr,le_of_ble_eq_true->Ku,one_pos->Ky,add_mul->KA,add_right_comm->KE,le_trans->KJ,le_of_not_lt->KO,one_mul->KP,strongRecOn->KS,add_comm->KV,lt_or_ge->KY,sub_zero->KZ,mul_one->K0
open Option renaming map_some->JU,getD_some->Ka,some->K1
namespace Go.V
structure Enc(α:Type) where
 sz:Nat
 enc:α->List PV
 hsz:0<sz
 hlen:∀ a,(enc a).length=sz
def cells{α:Type}(e:Enc α)(l:List α):List DV:=(l.map fun a=>(e.enc a).map DV.pv).flatten
def fz{α:Type}(e:Enc α)(l:List α):List (List PV):=l.map e.enc
def QR:Enc Int:=⟨1,fun n=>[.lit (.int .i64 n)],Ky,fun _=>rfl⟩
def Qcw:Enc Bool:=⟨1,fun b=>[.lit (.bool b)],Ky,fun _=>rfl⟩
def Qc5:Enc UInt8:=⟨1,fun b=>[.lit (.int .u8 b.toNat)],Ky,fun _=>rfl⟩
section
variable {α:Type} (e:Enc α)
theorem Qc3(l:List α):(fz e l).length=l.length:=by simp[fz]
theorem QgE(l:List α)(i:Nat)(h:i<l.length):(fz e l)[i]?=some (e.enc l[i]):=by
 rw[fz,Je,Jb h]; rfl
theorem QsC(l:List α)(n:Nat):(fz e l).take n=fz e (l.take n):=by simp[fz,List.map_take]
theorem QzI(l:List α)(n:Nat):(fz e l).drop n=fz e (l.drop n):=by simp[fz,List.map_drop]
theorem QzH(l:List α):((fz e l).flatten).map DV.pv=cells e l:=by
 induction l with
 | nil=>rfl
 | cons a r ih=>simp only[fz,cells,Jw,KG,Kp] at ih |-; rw[ih]
theorem QsD(l:List α)(h:0<l.length):(fz e l)[0]?.map Kz=some e.sz:=by
 rw[QgE e l 0 h]; simp[e.hlen]
theorem QK(a:α)(l:List α):cells e (a::l)=(e.enc a).map DV.pv++cells e l:=rfl
theorem QC(a b:List α):cells e (a++b)=cells e a++cells e b:=by simp[cells]
theorem QZ(l:List α):(cells e l).length=l.length*e.sz:=by
 induction l with
 | nil=>simp[cells]
 | cons a r ih=>rw[QK,Jg,ih,Jc,e.hlen,Ja,KA]; omega
theorem QfG(p:Nat->Bool):∀ (l:List PV),DV.nums.go p (l.map DV.pv)=true
 | []=>rfl
 | _::r=>QfG p r
theorem Qm0(n:Nat):∀ (l:List PV),DV.refs.go n (l.map DV.pv)=true
 | []=>rfl
 | _::r=>Qm0 n r
theorem QeB(l:List α):cells e l=((l.map e.enc).flatten).map DV.pv:=by
 induction l with
 | nil=>rfl
 | cons a r ih=>rw[QK,Jw,KG,Kp,ih]
theorem Qs(p:Nat->Bool)(l:List α):DV.nums.go p (cells e l)=true:=by rw[QeB]; exact QfG p _
theorem Qh5(n:Nat)(l:List α):DV.refs.go n (cells e l)=true:=by rw[QeB]; exact Qm0 n _
theorem QrB (n:Nat) (hp:Qa):∀ (l:List PV),Qh ((l.map DV.pv).map (QcF n hp)) = some (l.map DV.pv)
 | []=>rfl
 | a :: r=>by
   have:=QrB n hp r
   simp only[Jw,Qh,QcF] at this |-
   rw[this]; rfl
theorem Qm1 (n:Nat) (hp:Qa) (f:Nat):∀ (l:List PV),Qh ((l.map DV.pv).map (Qla n hp f)) = some l
 | []=>rfl
 | a :: r=>by
   have:=Qm1 n hp f r
   have h1:Qla n hp f (.pv a)=some a:=by cases f<;>rfl
   simp only[Jw,Qh,h1] at this |-
   rw[this]; rfl
theorem Qto(n:Nat)(hp:Qa)(l:List α):Qh ((cells e l).map (QcF n hp))=some (cells e l):=by rw[QeB]; exact QrB n hp _
theorem QoX (l:List α) (n:Nat):(cells e l).take (n * e.sz) = cells e (l.take n):=by
 induction l generalizing n with
 | nil=>simp[cells]
 | cons a r ih =>
   have ha:((e.enc a).map DV.pv).length=e.sz:=by rw[Jc,e.hlen]
   cases n with
   | zero=>simp[cells]
   | succ n=>rw[QK,KB,QK,KA,KP,KV,<- ha,List.take_append,Nat.add_sub_cancel_left,ha,ih,J1 (by omega)]
theorem QoY (l:List α) (n:Nat):(cells e l).drop (n * e.sz) = cells e (l.drop n):=by
 induction l generalizing n with
 | nil=>simp[cells]
 | cons a r ih =>
   have ha:((e.enc a).map DV.pv).length=e.sz:=by rw[Jc,e.hlen]
   cases n with
   | zero=>simp
   | succ n=>rw[QK,KC,KA,KP,KV,<- List.drop_drop,KQ ha,ih]
theorem Qh4 (n:Nat) (hp:Qa) (f:Nat):∀ (l:List α),Qh ((rows e.sz l.length (cells e l)).map fun r=>Qh (r.map (Qla n hp f))) = some (fz e l)
 | []=>rfl
 | a :: l=>by
   have ha:((e.enc a).map DV.pv).length=e.sz:=by rw[Jc,e.hlen]
   have hr:rows e.sz (a::l).length (cells e (a::l))=(e.enc a).map DV.pv::rows e.sz l.length (cells e l):=by
    rw[Ja,rows,QK,List.take_left' ha,KQ ha]
   rw[hr,Jw,Qm1]
   show(Qh _).map _=_
   rw[Qh4 n hp f l]; rfl
end
def Qnw(l:List Int):cells QR l=l.map (DV.int .i64):=by
 induction l with
 | nil=>rfl
 | cons a r ih=>rw[QK,ih]; rfl
def Qtq(l:List Bool):cells Qcw l=l.map DV.bool:=by
 induction l with
 | nil=>rfl
 | cons a r ih=>rw[QK,ih]; rfl
def Qnv(l:List UInt8):cells Qc5 l=l.map fun b=>.pv (.lit (.int .u8 b.toNat)):=by
 induction l with
 | nil=>rfl
 | cons a r ih=>rw[QK,ih]; rfl
def Qo0(l:List Int):(cells QR l).length=l.length:=by rw[Qnw,Jc]
def Qo2(l:List Bool):(cells Qcw l).length=l.length:=by rw[Qtq,Jc]
def Qa7(l:List UInt8):(cells Qc5 l).length=l.length:=by rw[Qnv,Jc]
def Qe1(l:List Int)(i:Nat)(h:i<l.length):(cells QR l)[i]?=some (.int .i64 (l.getD i 0)):=by
 rw[Qnw,Je,Jk,Jb h]; rfl
def Qh6(l:List Int)(i:Nat)(n:Int):(cells QR l).set i (.pv (.lit (.int .i64 n)))=cells QR (l.set i n):=by rw[Qnw,Qnw,KW]
def Qo1(l:List Bool)(i:Nat)(b:Bool):(cells Qcw l).set i (.pv (.lit (.bool b)))=cells Qcw (l.set i b):=by rw[Qtq,Qtq,KW]
def Q0(l:List Int)(i:Nat)(h:i<l.length):(fz QR l)[i]?=some [.lit (.int .i64 (l.getD i 0))]:=by
 rw[QgE QR l i h,Jk,Jb h]; rfl
def QsE(l:List UInt8)(i:Nat)(h:i<l.length):(fz Qc5 l)[i]?=some [.lit (.int .u8 (l.getD i 0).toNat)]:=by
 rw[QgE Qc5 l i h,Jk,Jb h]; rfl
def mkI(n:Nat):mk [.pv (.lit (.int .i64 0))] n=cells QR (Kw n 0):=by
 induction n with
 | zero=>rfl
 | succ n ih=>rw[Kc,QK,<- ih]; rfl
def mkB(n:Nat):mk [.pv (.lit (.bool false))] n=cells Qcw (Kw n false):=by
 induction n with
 | zero=>rfl
 | succ n ih=>rw[Kc,QK,<- ih]; rfl
def mkU(n:Nat):mk [.pv (.lit (.int .u8 0))] n=cells Qc5 (Kw n 0):=by
 induction n with
 | zero=>rfl
 | succ n ih=>rw[Kc,QK,<- ih]; rfl
def Qmc(n:Nat)(hp:Qa)(off sz len:Nat)(x:Option (List DV)):Option PV:=match x with
 | some cs=>if off+len*sz<=cs.length/\0<sz then (Qh ((rows sz len (cs.drop off)).map fun r=>Qh (r.map (Qla n hp 3)))).map .sl else none
 | none=>none
theorem QvZ:Qla n hp 4 (.own k sz off len)=if k<n then none else Qmc n hp off sz len (Qk hp k):=rfl
def QW(e:Enc α)(h:l.length=len):Qmc n hp 0 e.sz len (some (cells e l))=some (.sl (fz e l)):=by
 subst h
 simp only[Qmc]
 rw[if_pos ⟨by rw[QZ]; omega,e.hsz⟩,Kx,Qh4]; rfl
def QB4(h:l.length=len):Qmc n hp 0 1 len (some (cells QR l))=some (.sl (fz QR l)):=QW QR h
def QB5(h:l.length=len):Qmc n hp 0 1 len (some (cells Qcw l))=some (.sl (fz Qcw l)):=QW Qcw h
def QvE{α:Type}{n k:Nat}{A B:α}(hk:k<=1000)(hn:n<=1000000000):(if 0<=(n:Int)/\(n:Int)<=n/\(k:Int)*n<=281474976710656/\(n:Int)<=9223372036854775807 then A else B)=A:=by
 refine if_pos ⟨by omega,by omega,?_,by omega⟩
 have:(k:Int)*n<=1000*n:=Int.mul_le_mul_of_nonneg_right (by omega) (by omega)
 omega
def PV.wk:PV->PV
 | .slc xs=>.sl xs
 | p=>p
def DV.wk:DV->DV
 | .pv p=>.pv p.wk
 | .agg cs=>.agg (go cs)
 | .tup cs=>.tup (go cs)
 | d=>d
where
 go:List DV->List DV
  | []=>[]
  | d::r=>d.wk::go r
def QX:∀ (ds:List DV),DV.wk.go ds=ds.map DV.wk
 | []=>rfl
 | d::r=>by rw[DV.wk.go,QX r]; rfl
def RelP.wk(h:RelP w im p v):RelP w im p.wk v:=by
 cases h with
 | slc xs a sz val h1 h2 h3 h4 h5=>exact .sl xs a xs.length sz val (Jm _) h1 h2 h3 h4 h5
 | lit v h=>exact .lit v h
 | str l=>exact .str l
 | sl xs a cap sz val h1 h2 h3 h4 h5 h6=>exact .sl xs a cap sz val h1 h2 h3 h4 h5 h6
def RelD.wk (h:RelD w β hp d v):RelD w β hp d.wk v:=by
 induction h with
 | pv p v h=>exact .pv _ _ h.wk
 | ptr k off b h hb=>exact .ptr k off b h hb
 | own k sz off len cap b C T m h hb h1 h2 h3 h4=>exact .own k sz off len cap b C T m h hb h1 h2 h3 h4
 | ownc k sz off len cap b o C T m h hb h1 h2 h3 h4 h5=>exact .ownc k sz off len cap b o C T m h hb h1 h2 h3 h4 h5
 | own0 k sz a h hb ha=>exact .own0 k sz a h hb ha
 | ip cs ad val h1 h2 h3=>exact .ip cs ad val h1 h2 h3
 | agg ds vs h _ ih =>
   refine .agg _ vs (by rw[QX,Jc]; exact h) (fun i d hd=>?_)
   rw[QX,Je] at hd
   obtain⟨x,h1,h2⟩:=Qw hd
   subst h2; exact ih i x h1
 | fn f ds es vs us h h' h1 h2 _ _=>exact .fn f ds es vs us h h' h1 h2
 | tup ds vs h _ ih =>
   refine .tup _ vs (by rw[QX,Jc]; exact h) (fun i d hd=>?_)
   rw[QX,Je] at hd
   obtain⟨x,h1,h2⟩:=Qw hd
   subst h2; exact ih i x h1
 | opt c d v h hf _=>exact .opt c d v h hf
 | any v=>exact .any v
mutual
def Qpu(p:Nat->Bool):∀ (d:DV),d.nums p=true->d.wk.nums p=true
 | .pv _,_=>rfl
 | .ptr _ _,h=>h
 | .own _ _ _ _,h=>h
 | .ownc _ _ _ _ _,h=>h
 | .ip _,_=>rfl
 | .any,_=>rfl
 | .agg cs,h=>by simp only[DV.nums] at h; simp only[DV.wk,DV.nums]; exact QeH p cs h
 | .tup cs,h=>by simp only[DV.nums] at h; simp only[DV.wk,DV.nums]; exact QeH p cs h
 | .fn _ _ _,h=>h
 | .opt _ _,h=>h
def QeH (p:Nat->Bool):∀ (ds:List DV),DV.nums.go p ds = true->DV.nums.go p (DV.wk.go ds) = true
 | [],_=>rfl
 | d :: r,h=>by
   simp only[DV.nums.go,Jl] at h
   simp only[DV.wk.go,DV.nums.go,Jl]
   exact⟨Qpu p d h.1,QeH p r h.2⟩
end
abbrev QEg(d:DV):DV->Qa->Prop:=fun r h'=>h'=[]/\r.nums (fun _=>false)=true/\r.wk=d
def VCalls.unwk(c:VCalls P g args h (QEg d)):VCalls P g args h (Ret d):=
 ⟨fun w β vs hh ha=>(c.run w β vs hh ha).mono fun _ _ ⟨v,r,h',β',a,b,c,e,k1,k2,k3⟩=>⟨v,d,h',β',a,b,c,k3▸e.wk,k1,k3▸Qpu _ r k2,rfl⟩⟩
def QwG:∀ (l:List PV),(∀ p∈l,p.wk=p)->DV.wk.go (l.map DV.pv)=l.map DV.pv
 | [],_=>rfl
 | a::r,h=>by simp only[Jw,DV.wk.go,DV.wk]; rw[h a (by simp),QwG r fun p hp=>h p (by simp[hp])]
def QaM(e:Enc α)(l:List α)(h:∀ a,∀ p∈e.enc a,p.wk=p):DV.wk.go (cells e l)=cells e l:=by
 rw[QeB]
 refine QwG _ fun p hp=>?_
 obtain⟨c,hc,hp⟩:=List.mem_flatten.1 hp
 obtain⟨a,_,rfl⟩:=KX.1 hc
 exact h a p hp
def QEn(l:List Int):DV.wk.go (cells QR l)=cells QR l:=QaM QR l fun a p hp=>by simp[QR] at hp; subst hp; rfl
def QEq(l:List Bool):DV.wk.go (cells Qcw l)=cells Qcw l:=QaM Qcw l fun a p hp=>by simp[Qcw] at hp; subst hp; rfl
theorem Qvp:QlN (.pv p)=[]:=rfl
end Go.V
namespace Go.V
open Go.Lib
def bts(P:Program)(S T:TypeId):Bool:=match P.underlying S,P.underlying T with
 | some (.slice e),some .string=>(match P.underlying e with | some (.int .u8)=>true | _=>false)
 | _,_=>false
def QxF (hp:Qa) (off len:Nat) (b:Option (List DV)):Option (DV × Qa):=match b with
 | some cs=>if off + len<=cs.length then match QbP ((cs.drop off).take len) with
   | some l=>if l.length=len then some (.pv (.str l),hp) else none
   | none=>none
   else none
 | none=>none
def QfP (h:bts P S T = true):Qa9 P hp S T (.own k 1 off len) = QxF hp off len (Qk hp k):=by
 unfold bts at h
 split at h
 ·rename_i e hs ht
  split at h
  ·rename_i he
   unfold Qa9 QcN QxF
   simp only[hs,ht,he,Qwp,Qlf]
   cases Qk hp k with
   | none=>rfl
   | some cs =>
     simp only[K0,true_and]
     by_cases hc:off+len<=cs.length
     ·simp only [if_pos hc]
      cases hb:QbP ((cs.drop off).take len) with
      | none=>rfl
      | some l =>
        simp only
        by_cases hl:l.length=len
        ·simp only[if_pos hl]; rfl
        ·simp only[if_neg hl]; rfl
     ·simp only[if_neg hc]; rfl
  ·cases h
 ·cases h
def Qi8(l:List UInt8):QbP (cells Qc5 l)=some l:=by
 rw[Qnv]
 induction l with
 | nil=>rfl
 | cons b l ih=>simp only[Jw,QbP,ih]; simp
def Qi9(l:List UInt8):Qdb (cells Qc5 l)=some l:=by rw[Qnv]; exact QgQ l
def Qlp(hf:P.funcs[g]?=some fn)(hname:(fn.name == "runtime.NumGoroutine")=false)(hb:fn.body.isNone=true)(hn:Extern.findNext fn=none)(he:Extern.find fn=some Extern.AbiNoEscape.same):
 VCalls P g [x] hp fun r h'=>r=x/\h'=hp:=by
 refine⟨fun w β vs hh ha=>?_⟩
 have hvs:vs=#[vs.getD 0 undef]:=by
  have h1:=ha.1
  simp at h1
  apply K2
  ·simp; omega
  ·intro i h2 h3
   simp at h3
   subst h3
   simp[J7 h2]
 refine .inr ⟨fn,vs.getD 0 undef,w,hf,hb,?_,vs.getD 0 undef,x,hp,β,rfl,Evo.refl w β hp,hh,ha.2 0 x rfl,rfl,rfl⟩
 rw[run_callFunc_extern hf hname hb hn he,hvs]
 rfl
theorem Qgj:QJ P S []=some (.tup []):=rfl
def QqI(h:0<len):Qhw (.own k sz off len)=some (.ptr k off):=by simp[Qhw,h]
theorem Qua:QxF hp 0 1 (some [.pv (.lit (.int .u8 n))])=some (.pv (.str [UInt8.ofNat n.toNat]),hp):=rfl
theorem Qgu:Qbh (.pointer a)=.pv (.lit (.pointer a)):=rfl
theorem QaD:Qbh .nilIface=.pv (.lit .nilIface):=rfl
def QaS(h:Qox P T=true):QcA P .eql T b=some (.bool b):=by simp[QcA,h]
def QaR(h:Qox P T=true):QcA P .neq T b=some (.bool (!b)):=by simp[QcA,h]
def toU(P:Program)(S T:TypeId):Bool:=match P.underlying S,P.underlying T with
 | some (.pointer t),some .unsafePointer=>match P.info? t with | some j=>j.size != 0 | none=>false
 | _,_=>false
def frU(P:Program)(S T u:TypeId):Bool:=match P.underlying S,P.underlying T with
 | some .unsafePointer,some (.pointer u')=>u'==u&&(P.info? u).isSome&&P.cellsOf u != 0
 | _,_=>false
def Qav (h:toU P S T = true):QaO P hp S T k off = match hp[k]? with
 | some B=>if B.live=true/\off<B.cells.length then some (.ptr k off) else none
 | none=>none:=by
 unfold toU at h
 split at h
 ·rename_i t hs ht
  unfold QaO
  split at h
  ·rename_i j hj
   rw[hs,ht]
   cases hp[k]? with
   | none=>rfl
   | some B =>
     have:j.size≠0:=by simpa using h
     simp[this,hj]
  ·cases h
 ·cases h
def QY(h:frU P S T u=true):QaO P hp S T k 0=match hp[k]? with
 | some B=>if B.live=true/\B.ty=u/\P.cellsOf u<=B.cells.length then some (.ptr k 0) else none
 | none=>none:=by
 unfold frU at h
 split at h
 ·rename_i t hs ht
  unfold QaO
  rw[hs,ht]
  simp only[Jl,beq_iff_eq,bne_iff_ne] at h
  obtain⟨⟨rfl,h2⟩,h3⟩:=h
  obtain⟨j,hj⟩:=Option.isSome_iff_exists.1 h2
  cases hp[k]? with
  | none=>rfl
  | some B=>simp[h3,hj]
 ·cases h
def Qp7(P:Program)(pt e:TypeId):Bool:=match P.underlying pt with
 | some (.pointer e')=>e'==e&&P.cellsOf e==1
 | _=>false
def QxR(h:Qp7 P pt e=true)(hk:hp[k]?=some ⟨e,true,cells Qc5 l⟩)(hn:n=l.length)(h0:0<l.length)(h1:l.length<=9223372036854775807):
 QnH P hp pt k n=some (.pv (.str l),kill hp k):=by
 unfold Qp7 at h
 split at h
 ·rename_i e' hu
  simp only[Jl,beq_iff_eq] at h
  obtain⟨rfl,h3⟩:=h
  subst hn
  unfold QnH
  rw[hu,hk]
  have ht:(cells Qc5 l).take (l.length:Int).toNat=cells Qc5 l:=by rw[J1]; rw[Qa7]; simp
  simp only[ht,Qi9]
  rw[if_pos]
  refine⟨trivial,trivial,h3,by omega,by omega,by rw[Qa7]; simp⟩
 ·cases h
end Go.V
namespace Go.V
def aft(o:Oper)(l:List Nat):Oper:={ o with after:=(o.after.toList++l.map fun i=>(⟨i,.data⟩:Edge)).toArray }
def QwL(D:List (List Nat)):Nat->List Oper->List Oper
 | _,[]=>[]
 | j,o::r=>aft o (D.getD j [])::QwL D (j+1) r
def tcl(ops:Array Oper)(D:List (List Nat)):Array Oper:=(QwL D 0 ops.toList).toArray
def dOk(ops:Array Oper)(D:List (List Nat)):Bool:=
 (JZ ops.size).all fun j=>(D.getD j []).all fun i=>bnd ops j i||(JZ ops.size).any fun m=>bnd ops j m&&(D.getD m []).contains i
def QmA (D:List (List Nat)):∀ (l:List Oper) (j i:Nat),(QwL D j l)[i]? = l[i]?.map fun o=>aft o (D.getD (j + i) [])
 | [],j,i=>by simp[QwL]
 | o::r,j,0=>by simp[QwL]
 | o :: r,j,i + 1=>by
   simp only[QwL,Ko]
   rw[QmA D r (j+1) i,KE]; rfl
def Qf9(ops:Array Oper)(D:List (List Nat))(i:Nat):(tcl ops D)[i]?=ops[i]?.map fun o=>aft o (D.getD i []):=by
 have:=QmA D ops.toList 0 i
 simpa [tcl] using this
def Qmz(D:List (List Nat)):∀ (l:List Oper) (j:Nat),(QwL D j l).length=l.length
 | [],_=>rfl
 | o::r,j=>by simp[QwL,Qmz D r]
def Qul(ops:Array Oper)(D:List (List Nat)):(tcl ops D).size=ops.size:=by simp[tcl,Qmz]
section
variable {P:Program} {ops:Array Oper} {D:List (List Nat)} {Q:Exit->Act->World->Prop}
theorem Qqf(i:Nat):((tcl ops D)[i]?).bind (·.dst)=(ops[i]?).bind (·.dst):=by
 rw[Qf9]; cases ops[i]?<;>rfl
theorem Qlv(tmps:Array Value):yielded (tcl ops D) tmps=yielded ops tmps:=by
 funext j
 unfold yielded
 rw[Qqf]
theorem Quk (h:wpOp P (tcl ops D) Q i K a w):wpOp P ops Q i K a w:=by
 unfold wpOp at h |-
 rw[Qf9] at h
 cases ho:ops[i]? with
 | none=>simpa [ho] using h
 | some o =>
   simp only[ho,JU] at h |-
   rw[Qlv] at h
   exact h
def Cl(D:List (List Nat))(L:Array Bool):Prop:=∀ j,j<L.size->L.getD j false=true->∀ i∈D.getD j [],L.getD i false=true
theorem QjM(hd:dOk ops D=true)(hs:L.size=ops.size)(hc:Cl D L)(i:Nat)(h:i∈Region.ready .any ops L):i∈Region.ready .any (tcl ops D) L/\∀ m∈D.getD i [],L.getD m false=true:=by
 obtain⟨h0,o,ho,hdep⟩:=mem_ready.1 h
 have hlt:i<ops.size:=(Jh.1 ho).1
 have key:∀ m∈D.getD i [],L.getD m false=true:=by
  intro m hm
  have h1:=J8.1 hd i (Kf.2 hlt)
  have h2:=J8.1 h1 m hm
  rw[JV] at h2
  have dep:∀ x,bnd ops i x=true->L.getD x false=true:=by
   intro x hx
   unfold bnd at hx
   rw[ho] at hx
   simp only[KK,Jl,beq_iff_eq] at hx
   obtain⟨e,he,hb,rfl⟩:=hx
   exact hdep e (by simpa using he) hb
  rcases h2 with h2 | h2
  ·exact dep m h2
  ·obtain ⟨x,hx,h3⟩:=KK.1 h2
   rw[Jl] at h3
   exact hc x (by rw[hs]; exact Kf.1 hx) (dep x h3.1) m (by simpa using h3.2)
 refine⟨mem_ready.2 ⟨h0,aft o (D.getD i []),by rw[Qf9,ho]; rfl,fun e he hb=>?_⟩,key⟩
 simp only[aft,KL,Kq,KX] at he
 rcases he with he | ⟨m,hm,rfl⟩
 ·exact hdep e (by simpa using he) hb
 ·exact key m hm
theorem Qd2 (hs:L.size = ops.size) (hd:dOk ops D = true) (hc:Cl D L):(Region.ready .any ops L = [] ↔ Region.ready .any (tcl ops D) L = []):=by
 constructor
 ·intro h
  apply JX.2
  intro j hj
  obtain⟨h0,o,ho,hdep⟩:=mem_ready.1 hj
  rw[Qf9] at ho
  cases hj':ops[j]? with
  | none=>rw[hj'] at ho; cases ho
  | some o' =>
    rw[hj'] at ho
    simp only[JU,K1.injEq] at ho
    subst ho
    have:j∈Region.ready .any ops L:=mem_ready.2 ⟨h0,o',hj',fun e he hb=>hdep e (by simp only[aft,KL,Kq]; exact .inl (by simpa using he)) hb⟩
    rw[h] at this; cases this
 ·intro h
  apply JX.2
  intro j hj
  have:=(QjM hd hs hc j hj).1
  rw[h] at this; cases this
theorem QjL (hd:dOk ops D = true):∀ (fuel:Nat) (L:Array Bool) (a:Act) (w:World),L.size = ops.size->Cl D L->wpAny P .any (tcl ops D) Q fuel L a w->wpAny P .any ops Q fuel L a w
 | 0,L,a,w,hs,hc,h=>⟨(Qd2 hs hd hc).2 h.1,h.2⟩
 | fuel + 1,L,a,w,hs,hc,h=>by
   refine⟨fun hr=>h.1 ((Qd2 hs hd hc).1 hr),fun i hi=>?_⟩
   obtain⟨h1,h2⟩:=QjM hd hs hc i hi
   refine wpOp_mono (fun a w hw=>QjL hd fuel _ a w (by simpa using hs) ?_ hw) (Quk (h.2 i h1))
   intro j hj hl m hm
   by_cases hji:j=i
   ·subst hji
    have:=h2 m hm
    by_cases hmj:m=j
    ·subst hmj; exact hl
    ·rw[getD_set_ne false (Ne.symm hmj)]; exact this
   ·rw [getD_set_ne false (Ne.symm hji)] at hl
    have:=hc j (by simpa using hj) hl m hm
    by_cases hmi:m=i
    ·subst hmi
     have hlt:m<L.size:=by
      rcases KY m L.size with h | h
      ·exact h
      ·simp[h] at this
     simp[hlt]
    ·rw[getD_set_ne false (Ne.symm hmi)]; exact this
inductive SameL:List Oper->List Oper->Prop
 | nil:SameL [] []
 | cons (o:Oper) (l:List Nat) {r r':List Oper}:SameL r r'->SameL (aft o l::r) (o::r')
theorem QbG:∀ (l:List Nat),SameL (pick (tcl ops D).toList l) (pick ops.toList l)
 | []=>.nil
 | i :: r=>by
   have h:(tcl ops D).toList[i]?=(ops[i]?).map fun o=>aft o (D.getD i []):=by
    have:=Qf9 ops D i
    simpa using this
   have h':ops.toList[i]?=ops[i]?:=by simp
   rw[pick,pick,h,h']
   cases ops[i]? with
   | none=>exact QbG r
   | some o=>exact .cons o _ (QbG r)
theorem QhA:QF (tcl ops D).toList S (aft o l)=QF ops.toList S o:=by
 have key:∀ j:Nat,(tcl ops D).toList[j]?.bind (·.dst)=ops.toList[j]?.bind (·.dst):=fun j=>by
  have:=Qqf (ops:=ops) (D:=D) j
  simpa using this
 unfold QF
 have e:(aft o l).guard=o.guard:=rfl
 rw[e]
 simp only[key]
theorem Qiz:∀ {l' l:List Oper},SameL l' l->∀ {K K':St->Prop} {S:St},(∀ S,K S->K' S)->QaL P ops.toList l K S->QaL P (tcl ops D).toList l' K' S:=by
 intro l' l hs
 induction hs with
 | nil=>intro K K' S hk h; exact hk S h
 | cons o x _ ih =>
   intro K K' S hk h
   unfold QaL at h |-
   rw[QhA]
   refine⟨h.1,?_⟩
   have h2:=h.2
   have e1:(aft o x).op=o.op:=rfl
   have e2:(aft o x).guard=o.guard:=rfl
   have e3:(aft o x).dst=o.dst:=rfl
   rw[e1,e2,e3]
   clear h
   generalize QF ops.toList S o=gd at h2 |-
   split at h2
   ·exact h2.elim
   ·exact ih hk h2
   ·split at h2
    ·rename_i g args hc
     exact h2.mono fun r h' q=>ih hk q
    ·split at h2
     ·rename_i d hp' hv
      exact ih hk h2
     ·exact h2.elim
theorem Qqh:∀ {l' l:List Oper},SameL l' l->Qhq ops.toList S S1 l->Qhq (tcl ops D).toList S S1 l':=by
 intro l' l hs
 induction hs with
 | nil=>intro h; exact h
 | cons o x _ ih =>
   intro h
   refine⟨?_,ih h.2⟩
   rw[QhA]
   exact h.1
theorem Qqg:∀ {l' l:List Oper},SameL l' l->Qcx P S l->Qcx P S l':=by
 intro l' l hs
 induction hs with
 | nil=>intro h; exact h
 | cons o x _ ih=>intro h; exact⟨h.1,ih h.2⟩
theorem Qqe:∀ {segs:List Seg} {S:St},vsp P ops.toList segs K S->vsp P (tcl ops D).toList segs K S
 | [],S,h=>h
 | s :: r,S,h=>by
   unfold vsp at h |-
   exact⟨Qqg (QbG _) h.1,Qiz (QbG _) (fun S1 ⟨a,b⟩=>⟨Qqh (QbG _) a,Qiz (QbG _) (fun S h=>Qqe h) b⟩) h.2⟩
end
def Qa0{id:Nat}(D:List (List Nat))(H0:List Nat)(segs:List Seg)(hm:P.follows .mixedOrders=true)(hd:dOk ops D=true)(hok:QiA (tcl ops D) H0 segs=true)(h:QaL P ops.toList (pick ops.toList H0) (vsp P ops.toList segs (Q .normal)) S):VDraw P id ops Q S:=by
 have h':QaL P (tcl ops D).toList (pick (tcl ops D).toList H0) (vsp P (tcl ops D).toList segs (Q .normal)) S:=Qiz (QbG _) (fun S h=>Qqe h) h
 intro O β a w hs
 have hw:=Qhv (ops:=tcl ops D) H0 segs hok h' hs
 rw[Qul] at hw
 refine wp_region_any hm (QjL hd _ _ _ _ (by simp) (fun j _ hl=>?_) hw)
 by_cases hj:j<ops.size<;>simp[hj] at hl
end Go.V
namespace Go.V
def Qdv:Enc (List UInt8):=⟨1,fun s=>[.str s],Ky,fun _=>rfl⟩
def Qtp(l:List (List UInt8)):cells Qdv l=l.map fun s=>DV.pv (.str s):=by
 induction l with
 | nil=>rfl
 | cons a r ih=>rw[QK,ih]; rfl
def QoZ(l:List (List UInt8))(i:Nat)(h:i<l.length):(cells Qdv l)[i]?=some (.pv (.str (l.getD i []))):=by
 rw[Qtp,Je,Jk,Jb h]; rfl
structure C where
 l:List UInt8
 at_:Nat
 ha:at_<=l.length
 hl:l.length<=1000000
def cc(c:C):List DV:=[.pv (.sl (fz Qc5 c.l)),.int .i64 c.at_]
theorem QaW(c:C):DV.nums.go (fun _=>false) (cc c)=true:=rfl
def Qmy(x n:Nat)(h:1<=n):∃ y:Nat,(x:Int).tmod n=y/\y<n:=⟨x % n,by rw[Int.ofNat_tmod],Nat.mod_lt _ h⟩
def QeK{hp:Qa}{l:List UInt8}{n:Nat}(h:l.length=n):QxF hp 0 n (some (cells Qc5 l))=some (.pv (.str l),hp):=by
 subst h
 have e:((cells Qc5 l).drop 0).take l.length=cells Qc5 l:=by rw[Kx,J1]; rw[Qa7]; exact Jm _
 simp only[QxF]
 rw[if_pos (by rw[Qa7]; omega),e,Qi8]
 simp
end Go.V
namespace Go.V
def QcO(hf:P.funcs[g]?=some fn)(hb:fn.body=some c)(hname:(fn.name == "runtime.NumGoroutine")=false)(hn:args.length<=fn.ntmps)(hc:VWp P c (QeJ P fn.results.toList h.length R) ⟨fn.ntmps,h.length,Qhn 0 args,h⟩):VCalls P g args h R:=by
 refine QeL hf hb hname hn (fun e S hq=>?_) hc
 unfold QeJ at hq
 split at hq
 ·split at hq
  ·rename_i d hd; exact⟨.inl rfl,d,hd,.inl fun _=>hq⟩
  ·exact hq.elim
 ·split at hq
  ·rename_i d hd; exact⟨.inr rfl,d,hd,.inl fun _=>hq⟩
  ·exact hq.elim
 ·exact hq.elim
def VWp.weak(h:VWp P c Q S')(hw:QtT S S'):VWp P c Q S:=fun O _ a w hs=>
 let ⟨_,h'⟩:=hs.weak hw
 h O _ a w h'
def Qmo(f:Func):Code:=match f.body with | some c=>c | none=>.skip
end Go.V
namespace Go.V
open Go.Lib
def Qzg(hp:Qa)(k j:Nat):(kill hp k)[j]?=if j=k then (hp[j]?).map (fun B=>⟨B.ty,false,[]⟩) else hp[j]?:=by
 unfold kill
 split
 ·rename_i B hk
  have hlt:=(Jf.1 hk).1
  by_cases e:j=k
  ·subst e; rw[if_pos rfl,J9 hlt,hk]; rfl
  ·rw[if_neg e,Kv (by omega)]
 ·rename_i hk
  split
  ·rename_i e; subst e; rw[hk]; rfl
  ·rfl
def QvM (hp:Qa) (l:List Nat) (j:Nat):(QkA hp l)[j]? = if j ∈ l then (hp[j]?).map (fun B=>⟨B.ty,false,[]⟩) else hp[j]?:=by
 induction l generalizing hp with
 | nil=>simp[QkA]
 | cons k r ih =>
   rw[QkA,ih,Qzg]
   by_cases e:j=k
   ·subst e
    simp only[if_true,KF,true_or]
    split
    ·cases hp[j]?<;>rfl
    ·rfl
   ·simp only[KF,e,false_or,if_false]
def Qgq(hp:Qa):List Nat->Prop
 | []=>True
 | k::r=>(k<hp.length/\DV.nums.go (fun _=>false) (hp.getD k default).cells=true)/\Qgq hp r
def Qdq (h:Qgq hp sel):∀ k ∈ sel,k < hp.length/\DV.nums.go (fun _=>false) (hp.getD k default).cells = true:=by
 induction sel with
 | nil=>simp
 | cons a r ih =>
   intro k hk
   rcases KF.1 hk with rfl | hk
   ·exact h.1
   ·exact ih h.2 k hk
def QaF(hB:DV.nums.go (fun _=>false) B.cells=true):Qdx σ B=B:=by
 obtain⟨t,lv,c⟩:=B
 simp only[Qdx]
 rw[<- DV.ren_go,Qbc _ _ hB]
def Qmr {α β:Type} (l:List α) (f:α->Option β) (g:α->β) (h:∀ a ∈ l,f a = some (g a)):Qh (l.map f) = some (l.map g):=by
 induction l with
 | nil=>rfl
 | cons a r ih =>
   rw[Jw,h a (by simp),Jw]
   simp only[Qh]
   rw[ih fun b hb=>h b (by simp[hb])]
   rfl
def QcZ(h:Qgq hp sel):Qr9 hp sel=some (sel.map fun k=>hp.getD k default):=by
 refine Qmr sel _ _ fun k hk=>?_
 obtain⟨h1,h2⟩:=Qdq h k hk
 rw[Jk,Jb h1] at h2 |-
 simp only[JU,Ka] at h2 |-
 rw[QaF h2]
def Qc0(h:Qgq hp sel):Qnf hp sel=true:=by
 unfold Qnf
 rw[J8]
 intro k hk
 obtain⟨h1,h2⟩:=Qdq h k hk
 rw[Jk,Jb h1] at h2
 rw[Jb h1]
 simp only[Ka] at h2 |-
 rw[QP _ _ h2]; simp
end Go.V
namespace Go.V
def QtP (hp:Qa):DV->Option DV
 | .ptr k off=>match Qk hp k with
   | some cs=>(Qh ((cs.drop off).map (Qla 0 hp 4))).map .ip
   | none=>none
 | .ip cs=>some (.ip cs)
 | d=>QcF 0 hp d
def Qpl (hp:Qa):DV->Option DV
 | .fn f a b=>match Qh (a.map (QtP hp)),Qh (b.map (QtP hp)) with
   | some a',some b'=>some (.fn f a' b')
   | _,_=>none
 | .agg cs=>(Qh (cs.map (QtP hp))).map .agg
 | d=>QtP hp d
def QhW (hh:HeapRel w β hp) (hl:Leaves w β hp 0 (img βc [])) (hd:RelD w β hp d v) (h:QtP hp d = some d'):RelD w βc [] d' v:=by
 unfold QtP at h
 split at h
 ·rename_i k off
  split at h
  ·rename_i cs hb
   obtain⟨ps,h1,h2⟩:=Qw h
   subst h2
   obtain⟨g1,g2⟩:=QD h1
   cases hd with
   | ptr _ _ b hk hm =>
     obtain⟨B,C,q1,q2,q3,q4,q5,q6⟩:=QaX hh hb hm
     have each:∀ (j:Nat) (d:PV),ps[j]?=some d->off+j<C.v.size/\RelP w (img βc []) d (C.v.getD (off+j) undef):=fun j d hj=>by
      have h3:=g2 j d hj
      rw[Je,List.getElem?_drop] at h3
      obtain⟨x,x1,x2⟩:=Qw h3
      have hlt:=(Jf.1 x1).1
      exact⟨by omega,QeY hh hl 4 (q6 _ _ x1).2 x2⟩
     refine .ip ps ⟨b,off,none⟩ (fun j=>C.v.getD (off+j) undef) rfl (fun j d hj=>⟨?_,?_,?_⟩) (fun j d hj=>(each j d hj).2)
     ·exact(Jh.1 q4).1
     ·exact hl.off k B b (J2 _) q1 q2 hm
     ·exact Q3 q4 (each j d hj).1
  ·cases h
 ·rename_i cs
  simp at h
  subst h
  cases hd with
  | ip _ ad val h1 h2 h3 =>
    exact .ip cs ad val h1 (fun j d hd=>⟨(h2 j d hd).1,fun x=>(h2 j d hd).2.1 (hl.sub _ x),(h2 j d hd).2.2⟩) (fun j d hd=>(h3 j d hd).mono (Jm _) (fun _ _ _=>rfl) (fun b _=>hl.sub b))
 ·exact Qch (β':=βc) (hp':=[]) hh hl (fun k hk=>absurd hk (Kr _)) (J2 _) hd h
def QdP{hp:Qa}(hh:HeapRel w β hp)(hl:Leaves w β hp 0 (img βc [])){ds ds':List DV}{n:Nat}{f:Nat->Value}(hn:ds.length=n)(hd:∀ i d,ds[i]?=some d->RelD w β hp d (f i))(h:Qh (ds.map (QtP hp))=some ds'):ds'.length=n/\∀ i d,ds'[i]?=some d->RelD w βc [] d (f i):=by
 obtain⟨h1,h2⟩:=QD h
 refine⟨by rw[h1,Jc,hn],fun i d hi=>?_⟩
 have h3:=h2 i d hi
 rw[Je] at h3
 obtain⟨x,x1,x2⟩:=Qw h3
 exact QhW hh hl (hd i x x1) x2
def QhX (hh:HeapRel w β hp) (hl:Leaves w β hp 0 (img βc [])) (hd:RelD w β hp d v) (h:Qpl hp d = some d'):RelD w βc [] d' v:=by
 unfold Qpl at h
 split at h
 ·rename_i f a b
  split at h
  ·rename_i a' b' ha hb
   simp at h
   subst h
   cases hd with
   | fn _ _ _ vs us h1 h2 h3 h4 =>
     obtain⟨p1,p2⟩:=QdP hh hl h1 h3 ha
     obtain⟨q1,q2⟩:=QdP hh hl h2 h4 hb
     exact .fn f a' b' vs us p1 q1 p2 q2
  ·cases h
 ·rename_i cs
  obtain⟨ds,h1,h2⟩:=Qw h
  subst h2
  cases hd with
  | agg _ vs g1 g2 =>
    obtain⟨p1,p2⟩:=QdP hh hl g1 g2 h1
    exact .agg _ _ p1 p2
 ·exact QhW hh hl hd h
def VCalls.lendA{g:FuncId}{args args0:List DV}{hp:Qa}{R:DV->Prop}(ha:Qh (args.map (Qpl hp))=some args0)(c:VCalls P g args0 [] fun r h'=>h'=[]/\r.flat=true/\R r):
 VCalls P g args hp fun r h'=>h'=hp/\R r:=by
 refine⟨fun w β vs hh hr=>?_⟩
 let βc:Map:=⟨fun _=>none,β.X⟩
 have himc:∀ b,img βc [] b->β.X b:=fun b hb=>by
  rcases hb with hb | ⟨i,D,h1,_⟩
  ·exact hb
  ·simp at h1
 have hlv:Leaves w β hp 0 (img βc []):=⟨fun b hb=>.inl (himc b hb),fun k B b _ h1 h2 h3 hb=>hh.avoid k B b h1 h2 h3 (himc b hb)⟩
 have hhc:HeapRel w βc []:=⟨by simp,by simp,by simp,by simp,hh.bound⟩
 obtain⟨a1,a2⟩:=QD ha
 have hargs:RelL w βc [] args0 vs:=by
  refine⟨by rw[a1]; simpa using hr.1,fun i d hd=>?_⟩
  have h3:=a2 i d hd
  rw[Je] at h3
  obtain⟨x,x1,x2⟩:=Qw h3
  exact QhX hh hlv (hr.2 i x x1) x2
 refine(c.run w βc vs hhc hargs).mono ?_
 rintro e w' ⟨v,r,h',β',rfl,ev,hh',hrel,rfl,hf,hR⟩
 have heap_same:∀ b,b<w.heap.size->w'.heap[b]?=w.heap[b]?:=fun b hb=>ev.same b hb (by rintro⟨k,B,h1,_⟩; simp at h1)
 have e:Evo w β hp w' β hp:=⟨ev.os,ev.tape,ev.output,ev.size,Jm _,fun _ _=>rfl,fun b hb _=>heap_same b hb,fun b C T m h=>⟨C,m,by rw[heap_same b (Jh.1 h).1]; exact h,rfl⟩,fun _ _ h=>h,rfl⟩
 refine⟨v,r,hp,β,rfl,e,?_,hrel.flat hf,rfl,hR⟩
 refine⟨fun k B b h1 h2 h3=>?_,hh.none,hh.inj,hh.avoid,fun b hb=>JR (hh.bound b hb) ev.size⟩
 obtain⟨C,g1,g2,g3⟩:=hh.blk k B b h1 h2 h3
 exact⟨C,by rw[heap_same b (Jh.1 g1).1]; exact g1,g2,fun i d hd=>⟨(g3 i d hd).1,(g3 i d hd).2.mono e⟩⟩
def Qud(c:VCalls P g args0 [] (Ret d))(ha:Qh (args.map (Qpl hp))=some args0)(hf:d.flat=true)(h:K d hp):VCalls P g args hp K:=
 (VCalls.lendA (R:=fun r=>r=d) ha (c.mono fun r h' e=>⟨e.1,e.2.2▸hf,e.2.2⟩)).mono fun r h' e=>by obtain⟨rfl,rfl⟩:=e; exact h
def QjP(e:Enc α)(l m:List α)(i:Nat):splice (cells e l) (i*e.sz) (cells e m)=cells e (l.take i++m++l.drop (i+m.length)):=by
 unfold splice
 rw[QoX,QZ,<- KA,QoY,QC,QC]
def QEb(f:Fn)(a b:Option (List DV)):Option DV:=match a,b with | some a',some b'=>some (.fn f a' b') | _,_=>none
theorem Qv0:Qpl hp (.agg cs)=(Qh (cs.map (QtP hp))).map .agg:=rfl
theorem QsI:Qpl hp (.own k sz off len)=QcF 0 hp (.own k sz off len):=rfl
theorem QsH:QtP hp (.own k sz off len)=QcF 0 hp (.own k sz off len):=rfl
theorem QzP:Qpl hp (.pv p)=some (.pv p):=rfl
theorem QzO:QtP hp (.pv p)=some (.pv p):=rfl
end Go.V
namespace Go.V
def Qn4 (h:Sim O β S a w) (t:Nat) (T:TypeId) (sz:Nat) (ht:look S.tm t = .pv (.slc [])):
 ∃ β',Sim O β' ⟨S.nt,S.base,(t,.own S.hp.length sz 0 0)::S.tm,S.hp++[⟨T,true,[]⟩]⟩ a w:=by
 have e:Evo w β S.hp w (ext β S.hp.length none) (S.hp++[(⟨T,true,[]⟩:Blk)]):=by
  refine⟨rfl,rfl,rfl,Jm _,by simp,fun j hj=>Qbf hj,fun _ _ _=>rfl,fun _ C _ m h=>⟨C,m,h,rfl⟩,fun b _ hb=>?_,rfl⟩
  obtain⟨j,D,g1,g2,g3⟩:=hb
  rcases Kg j S.hp.length with hlt | heq | hgt
  ·rw[Ju hlt] at g1; rw[Qbf hlt] at g3; exact⟨j,D,g1,g2,g3⟩
  ·subst heq; simp[ext] at g3
  ·rw[J5 (by omega),Jv (by simp; omega)] at g1; simp at g1
 refine⟨_,h.defers,h.size,fun u=>?_,Qeb h.heap rfl e (by simp) (fun _=>rfl) (fun _ _=>rfl),h.evo.trans e,h.base⟩
 simp only[look]
 split
 ·rename_i hu
  have:=h.tm t
  rw[ht] at this
  rw[<- hu]
  generalize a.tmps.getD t undef=v at this
  cases this with
  | pv _ _ hp0=>cases hp0 with
    | slc _ ad sz2 val h1 h2 h3 h4 h5=>exact .own0 _ _ ad (by simp) (by simp[ext]) trivial
 ·exact(h.tm u).mono e
def VWp.nilOwn(t:Nat)(T:TypeId)(sz:Nat)(ht:look S.tm t=.pv (.slc []))(h:VWp P c Q ⟨S.nt,S.base,(t,.own S.hp.length sz 0 0)::S.tm,S.hp++[⟨T,true,[]⟩]⟩):VWp P c Q S:=fun O β a w hs=>
 let ⟨_,h'⟩:=Qn4 hs t T sz ht
 h O _ a w h'
def VLoop.nilOwn(t:Nat)(T:TypeId)(sz:Nat)(ht:look S.tm t=.pv (.slc []))(h:VLoop P c Q ⟨S.nt,S.base,(t,.own S.hp.length sz 0 0)::S.tm,S.hp++[⟨T,true,[]⟩]⟩):VLoop P c Q S:=VWp.nilOwn t T sz ht h
end Go.V
namespace Go.V
open Go
def VCalls.wkA(c:VCalls P g (DV.wk.go args) hp R):VCalls P g args hp R:=
 ⟨fun w β vs hh ha=>c.run w β vs hh ⟨by rw [QX,Jc]; exact ha.1,fun i d hd=>by
  rw[QX,Je] at hd
  obtain⟨x,h1,h2⟩:=Qw hd
  subst h2
  exact(ha.2 i x h1).wk⟩⟩
end Go.V
namespace Go.V
open Go
structure Cut(h h':Qa):Prop where
 len:h'.length=h.length
 at_:∀ (k:Nat) (B:Blk),h[k]?=some B->∃ B',h'[k]?=some B'/\B'.ty=B.ty/\B'.live=B.live/\∃ t,B.cells=B'.cells++t
def Cut.back(c:Cut h h'){k:Nat}(hk:h'[k]?=some B'):∃ B,h[k]?=some B/\B'.ty=B.ty/\B'.live=B.live/\∃ t,B.cells=B'.cells++t:=by
 have hlt:k<h.length:=by rw[<- c.len]; exact(Jf.1 hk).1
 obtain⟨B2,g1,g2⟩:=c.at_ k h[k] (Jb hlt)
 rw[hk] at g1
 cases g1
 exact⟨h[k],Jb hlt,g2⟩
def Cut.live{h h':Qa}(c:Cut h h'){β:Map}{b:Nat}:live β h' b ↔ live β h b:=by
 constructor
 ·rintro ⟨k,B,h1,h2,h3⟩
  obtain⟨B2,g1,_,g3,_⟩:=c.back h1
  exact⟨k,B2,g1,g3▸h2,h3⟩
 ·rintro ⟨k,B,h1,h2,h3⟩
  obtain⟨B2,g1,_,g3,_⟩:=c.at_ k B h1
  exact⟨k,B2,g1,g3.trans h2,h3⟩
def Cut.evo(c:Cut h h')(w:World)(β:Map):Evo w β h w β h':=
 ⟨rfl,rfl,rfl,Jm _,by rw[c.len]; exact Jm _,fun _ _=>rfl,fun _ _ _=>rfl,fun _ C _ m e=>⟨C,m,e,rfl⟩,fun _ _ l=>c.live.1 l,rfl⟩
def Cut.heap(c:Cut h h')(hh:HeapRel w β h):HeapRel w β h':=by
 refine⟨fun k B b h1 h2 h3=>?_,fun k B h1 h2 h3=>?_,fun j k B B' b h1 h2 h3 h4 h5 h6=>?_,fun k B b h1 h2 h3=>?_,hh.bound⟩
 ·obtain ⟨B2,g1,g2,g3,t,g4⟩:=c.back h1
  obtain⟨C,e1,e2,e3⟩:=hh.blk k B2 b g1 (g3▸h2) h3
  refine⟨C,g2▸e1,by rw[g4,Jg] at e2; omega,fun i d hd=>?_⟩
  have:B2.cells[i]?=some d:=by rw[g4,Ju (Jf.1 hd).1]; exact hd
  exact⟨(e3 i d this).1,(e3 i d this).2.mono (c.evo w β)⟩
 ·obtain ⟨B2,g1,g2,g3,t,g4⟩:=c.back h1
  have:=hh.none k B2 g1 (g3▸h2) h3
  rw[g4] at this
  exact(List.append_eq_nil_iff.1 this).1
 ·obtain ⟨B2,g1,_,g3,_⟩:=c.back h1
  obtain⟨B3,i1,_,i3,_⟩:=c.back h2
  exact hh.inj j k B2 B3 b g1 i1 (g3▸h3) (i3▸h4) h5 h6
 ·obtain ⟨B2,g1,_,g3,_⟩:=c.back h1
  exact hh.avoid k B2 b g1 (g3▸h2) h3
def VCalls.cut(c:VCalls P g args h R)(hr:∀ r h',R r h'->∃ h'',Cut h' h''/\R' r h''):VCalls P g args h R':=
 ⟨fun w β vs hh ha=>(c.run w β vs hh ha).mono fun _ w' ⟨v,r,h',β',e1,ev,hh',hd,hR⟩=>by
  obtain⟨h'',hc,hR'⟩:=hr r h' hR
  exact⟨v,r,h'',β',e1,ev.trans (hc.evo w' β'),hc.heap hh',hd.mono (hc.evo w' β'),hR'⟩⟩
def Cut.refl(h:Qa):Cut h h:=⟨rfl,fun k B hk=>⟨B,hk,rfl,rfl,[],by simp⟩⟩
def Cut.last(h:Qa)(T:TypeId)(b:Bool)(cs t:List DV):Cut (h++[⟨T,b,cs++t⟩]) (h++[⟨T,b,cs⟩]):=by
 refine⟨by simp,fun k B hk=>?_⟩
 rcases Kg k h.length with hlt | heq | hgt
 ·rw [Ju hlt] at hk |-
  exact⟨B,hk,rfl,rfl,[],by simp⟩
 ·subst heq
  simp only[List.getElem?_concat_length,K1.injEq] at hk |-
  subst hk
  exact⟨_,rfl,rfl,rfl,t,rfl⟩
 ·rw[Jv (by simp; omega)] at hk; cases hk
end Go.V
namespace Go.V
open Go
structure Gm(keep:List Nat)(S S':St):Prop where
 nt:S'.nt=S.nt
 base:S'.base=S.base
 low:∀ k,k<S.base->∃ B,S'.hp[k]?=some B/\B.live=false
 nodup:keep.Nodup
 len:S'.hp.length=S.base+keep.length
 hp:∀ (i k:Nat),keep[i]?=some k->∃ B B',S.hp[k]?=some B/\S'.hp[S.base+i]?=some B'/\B'.ty=B.ty/\B'.live=B.live/\B'.cells=B.cells.map (DV.ren fun k=>S.base+keep.idxOf k)/\(B.live=true->DV.nums.go keep.contains B.cells=true)
 tm:∀ t,V.look S'.tm t=.any\/(V.look S'.tm t=(V.look S.tm t).ren (fun k=>S.base+keep.idxOf k)/\(V.look S.tm t).nums keep.contains=true)
def Sim.gm (h:Sim O β S a w) (g:Gm keep S S'):∃ β',Sim O β' S' a w:=by
 let β':Map:=⟨fun i=>if i<S.base then β.f i else (keep[i-S.base]?).bind β.f,β.X⟩
 have hO:O.hp.length=S.base:=h.base
 have back:∀ {i:Nat} {B':Blk},S'.hp[i]?=some B'->B'.live=true->∃ k B,S.base<=i/\keep[i-S.base]?=some k/\S.hp[k]?=some B/\B'.ty=B.ty/\B'.live=B.live/\B'.cells=B.cells.map (DV.ren fun k=>S.base+keep.idxOf k)/\(B.live=true->DV.nums.go keep.contains B.cells=true)/\β'.f i=β.f k:=by
  intro i B' hi hl
  have hge:S.base<=i:=by
   rcases KY i S.base with hlt | hge
   ·obtain ⟨B,h1,h2⟩:=g.low i hlt
    rw[hi] at h1; cases h1; rw[hl] at h2; cases h2
   ·exact hge
  have hlt:i-S.base<keep.length:=by have:=(Jf.1 hi).1; rw[g.len] at this; omega
  have hk:keep[i-S.base]?=some keep[i-S.base]:=Jb hlt
  obtain⟨B,B'',h1,h2,h3,h4,h5,h6⟩:=g.hp _ _ hk
  rw[show S.base+(i-S.base)=i by omega,hi] at h2
  cases h2
  exact⟨_,B,hge,hk,h1,h3,h4,h5,h6,by simp[β',hk]; omega⟩
 have hsub:∀ b,live β' S'.hp b->live β S.hp b:=by
  rintro b ⟨i,B',h1,h2,h3⟩
  obtain⟨k,B,_,_,k2,_,k4,_,_,k7⟩:=back h1 h2
  exact⟨k,B,k2,by rw[<- k4]; exact h2,by rw[<- k7]; exact h3⟩
 have him:∀ b,img β' S'.hp b->img β S.hp b:=fun b hb=>hb.imp id (hsub b)
 have hσ:∀ k,keep.contains k=true->k<S.hp.length->S.base+keep.idxOf k<S'.hp.length/\β'.f (S.base+keep.idxOf k)=β.f k:=by
  intro k hk _
  have hm:k∈keep:=by simpa using hk
  have hlt:=Kd hm
  refine⟨by rw[g.len]; omega,?_⟩
  have hnl:¬ S.base+List.idxOf k keep<S.base:=by omega
  simp[β',Jb hlt,hnl]
 refine⟨β',h.defers,by rw[g.nt]; exact h.size,fun t=>?_,?_,?_,h.base.trans g.base.symm⟩
 ·rcases g.tm t with e | ⟨e,hn⟩
  ·rw[e]; exact .any _
  ·rw[e]; exact RelD.ren hσ him (h.tm t) hn
 ·have hh:=h.heap
  refine⟨fun i B' b h1 h2 h3=>?_,fun i B' h1 h2 h3=>?_,fun i j B B' b h1 h2 h3 h4 h5 h6=>?_,fun i B' b h1 h2 h3=>?_,hh.bound⟩
  ·obtain ⟨k,B,_,k1,k2,k3,k4,k5,k6,k7⟩:=back h1 h2
   rw[k7] at h3
   have hl:B.live=true:=by rw[<- k4]; exact h2
   obtain⟨C,c1,c2,c3⟩:=hh.blk k B b k2 hl h3
   refine⟨C,by rw[k3]; exact c1,by rw[k5,Jc]; exact c2,fun j d hd=>?_⟩
   rw[k5,Je] at hd
   cases hx:B.cells[j]? with
   | none=>simp[hx] at hd
   | some x =>
     simp[hx] at hd
     subst hd
     obtain⟨o1,o2⟩:=c3 j x hx
     refine⟨?_,RelD.ren hσ him o2 (DV.nums_go (k6 hl) j x hx)⟩
     cases x<;>first | rfl | exact o1
  ·obtain ⟨k,B,_,k1,k2,k3,k4,k5,k6,k7⟩:=back h1 h2
   rw[k7] at h3
   rw[k5,hh.none k B k2 (by rw[<- k4]; exact h2) h3]; rfl
  ·obtain ⟨k,D,g1,k1,k2,k3,k4,k5,k6,k7⟩:=back h1 h3
   obtain⟨k',D',g2,l1,l2,l3,l4,l5,l6,l7⟩:=back h2 h4
   rw[k7] at h5
   rw[l7] at h6
   have:=hh.inj k k' D D' b k2 l2 (by rw[<- k4]; exact h3) (by rw[<- l4]; exact h4) h5 h6
   subst this
   obtain⟨hi,e1⟩:=Jf.1 k1
   obtain⟨hj,e2⟩:=Jf.1 l1
   have:=(List.getElem_inj g.nodup).1 (e1.trans e2.symm)
   omega
  ·obtain ⟨k,B,_,k1,k2,k3,k4,k5,k6,k7⟩:=back h1 h2
   rw[k7] at h3
   exact hh.avoid k B b k2 (by rw[<- k4]; exact h2) h3
 ·have ev:=h.evo
  have hlow:∀ k,k<O.hp.length->β'.f k=β.f k:=fun k hk=>by simp[β',show k<S.base by omega]
  exact⟨ev.os,ev.tape,ev.output,ev.size,by rw[g.len]; omega,fun k hk=>(hlow k hk).trans (ev.beta k hk),ev.same,ev.shape,fun b hb hl=>ev.im b hb (hsub b hl),ev.X⟩
def QCO(n:Nat)(keep:List Nat)(tm:List (Nat×DV)):List (Nat×DV)->Prop
 | []=>True
 | (t,d)::r=>(d=(V.look tm t).ren (fun k=>n+keep.idxOf k)/\(V.look tm t).nums keep.contains=true)/\QCO n keep tm r
def QjJ:∀ {tm':List (Nat × DV)},QCO n keep tm tm'->∀ t,V.look tm' t = .any\/(V.look tm' t = (V.look tm t).ren (fun k=>n + keep.idxOf k)/\(V.look tm t).nums keep.contains = true)
 | [],_,t=>.inl rfl
 | (a,d) :: r,h,t=>by
   simp only[V.look]
   split
   ·rename_i e; subst e; exact .inr h.1
   ·exact QjJ h.2 t
def Qz8(n:Nat)(keep:List Nat)(cs cs':List DV):Prop:=(DV.nums.go (fun _=>false) cs=true/\cs'=cs)\/(cs'=cs.map (DV.ren fun k=>n+keep.idxOf k)/\DV.nums.go keep.contains cs=true)
def QCV(n:Nat)(keep:List Nat)(hp:Qa):List Nat->Qa->Prop
 | [],[]=>True
 | k::r,B'::r'=>(∃ B,hp[k]?=some B/\B'.ty=B.ty/\B'.live=B.live/\Qz8 n keep B.cells B'.cells)/\QCV n keep hp r r'
 | _,_=>False
def Qnm:∀ {l:List Nat} {hp':Qa},QCV n keep hp l hp'->hp'.length = l.length/\∀ (i k:Nat),l[i]? = some k->∃ B B',hp[k]? = some B/\hp'[i]? = some B'/\B'.ty = B.ty/\B'.live = B.live/\B'.cells = B.cells.map (DV.ren fun k=>n + keep.idxOf k)/\(B.live = true->DV.nums.go keep.contains B.cells = true)
 | [],[],_=>⟨rfl,fun i k h=>by simp at h⟩
 | [],_::_,h=>h.elim
 | _::_,[],h=>h.elim
 | k0 :: r,B' :: r',h=>by
   obtain⟨⟨B,h1,h2,h3,h4⟩,h5⟩:=h
   obtain⟨g1,g2⟩:=Qnm h5
   refine⟨by simp[g1],fun i k hk=>?_⟩
   cases i with
   | zero =>
     simp at hk
     subst hk
     refine⟨B,B',h1,rfl,h2,h3,?_⟩
     rcases h4 with⟨n,e⟩ | ⟨e,n⟩
     ·exact⟨by rw[e,<- DV.ren_go,Qbc _ _ n],fun _=>QP _ _ n⟩
     ·exact⟨e,fun _=>n⟩
   | succ i=>exact g2 i k (by simpa using hk)
def QgM:List TypeId->Qa:=List.map fun T=>⟨T,false,[]⟩
def VWp.move(keep:List Nat)(Ts:List TypeId)(tm':List (Nat×DV))(hp':Qa)(hb:Ts.length=S.base)(hn:keep.Nodup)(hh:QCV S.base keep S.hp keep hp')(ht:QCO S.base keep S.tm tm')(h:VWp P c Q ⟨S.nt,S.base,tm',QgM Ts++hp'⟩):VWp P c Q S:=fun O β a w hs=>by
 obtain⟨g1,g2⟩:=Qnm hh
 have hl:(QgM Ts).length=S.base:=by simp[QgM,hb]
 obtain⟨β',h'⟩:=hs.gm (keep:=keep) (S':=⟨S.nt,S.base,tm',QgM Ts++hp'⟩) ⟨rfl,rfl,fun k hk=>by
  have hlt:k<(QgM Ts).length:=by omega
  refine⟨(QgM Ts)[k],by show(QgM Ts++hp')[k]?=_; rw[Ju hlt,Jb hlt],by simp[QgM]⟩,hn,by show(QgM Ts++hp').length=_; rw[Jg,hl,g1],fun i k hk=>by
  obtain⟨B,B',e1,e2,e3⟩:=g2 i k hk
  exact⟨B,B',e1,by show(QgM Ts++hp')[S.base+i]?=_; rw[J5 (by omega),hl,show S.base+i-S.base=i by omega]; exact e2,e3⟩,QjJ ht⟩
 exact h O β' a w h'
def VLoop.move(keep:List Nat)(Ts:List TypeId)(tm':List (Nat×DV))(hp':Qa)(hb:Ts.length=S.base)(hn:keep.Nodup)(hh:QCV S.base keep S.hp keep hp')(ht:QCO S.base keep S.tm tm')(h:VLoop P c Q ⟨S.nt,S.base,tm',QgM Ts++hp'⟩):VLoop P c Q S:=VWp.move keep Ts tm' hp' hb hn hh ht h
end Go.V
namespace Go.V
open Go
def QCQ(n:Nat)(hp:Qa)(tm:List (Nat×DV)):List (Nat×DV)->Prop
 | []=>True
 | (t,d)::r=>frz n hp (V.look tm t)=some d/\QCQ n hp tm r
def Qf8:∀ {tm':List (Nat × DV)},QCQ n hp tm tm'->∀ t,V.look tm' t = .any\/frz n hp (V.look tm t) = some (V.look tm' t)
 | [],_,t=>.inl rfl
 | (a,d) :: r,h,t=>by
   simp only[V.look]
   split
   ·rename_i e; subst e; exact .inr h.1
   ·exact Qf8 h.2 t
structure Fz(S S':St):Prop where
 nt:S'.nt=S.nt
 base:S'.base=S.base
 hp:Qbk S.base S.hp=some S'.hp
 tm:QCQ S.base S.hp S.tm S'.tm
def Sim.fz(h:Sim O β S a w)(g:Fz S S'):Sim O β S' a w:=by
 have hn:S.base<=S.hp.length:=by rw[<- h.base]; exact h.evo.len
 have one:∀ {d:DV} {v:Value} {d':DV},RelD w β S.hp d v->frz S.base S.hp d=some d'->RelD w β S'.hp d' v/\HeapRel w β S'.hp/\S'.hp.length=S.base/\∀ b,live β S'.hp b->live β S.hp b:=by
  intro d v d' hd hf
  obtain⟨e,hp',⟨r1,r2⟩,k2,k3,k4,k5⟩:=Qdh h.heap hn hd (R:=fun e hp'=>e=d'/\hp'=S'.hp) (by unfold QtL; rw[hf,g.hp]; exact⟨rfl,rfl⟩)
  subst r1 r2
  exact⟨k2,k3,k4,k5⟩
 obtain⟨_,k3,k4,k5⟩:=one (d:=.any) (v:=undef) (d':=.any) (.any _) rfl
 refine⟨h.defers,by rw[g.nt]; exact h.size,fun t=>?_,k3,?_,h.base.trans g.base.symm⟩
 ·rcases Qf8 g.tm t with e | e
  ·rw[e]; exact .any _
  ·exact(one (h.tm t) e).1
 ·have ev:=h.evo
  exact⟨ev.os,ev.tape,ev.output,ev.size,by rw[k4,<- h.base]; exact Jm _,ev.beta,ev.same,ev.shape,fun b hb hl=>ev.im b hb (k5 b hl),ev.X⟩
def VWp.fz(S':St)(g:Fz S S')(h:VWp P c Q S'):VWp P c Q S:=fun O β a w hs=>h O β a w (hs.fz g)
def VLoop.fz(S':St)(g:Fz S S')(h:VLoop P c Q S'):VLoop P c Q S:=VWp.fz S' g h
end Go.V
namespace Go.V
open Go
def VCalls.giveA{g:FuncId}{args args0:List DV}{hp:Qa}{R:DV->Prop}(ha:Qh (args.map (Qpl hp))=some args0)(c:VCalls P g args0 [] fun r h'=>h'=[]/\r.nums (fun _=>false)=true/\R r):
 VCalls P g args hp fun r h'=>h'=hp.map (fun B=>⟨B.ty,false,[]⟩)/\R r:=by
 refine⟨fun w β vs hh hr=>?_⟩
 let βc:Map:=⟨fun _=>none,β.X⟩
 have himc:∀ b,img βc [] b->β.X b:=fun b hb=>by
  rcases hb with hb | ⟨i,D,h1,_⟩
  ·exact hb
  ·simp at h1
 have hlv:Leaves w β hp 0 (img βc []):=⟨fun b hb=>.inl (himc b hb),fun k B b _ h1 h2 h3 hb=>hh.avoid k B b h1 h2 h3 (himc b hb)⟩
 have hhc:HeapRel w βc []:=⟨by simp,by simp,by simp,by simp,hh.bound⟩
 obtain⟨a1,a2⟩:=QD ha
 have hargs:RelL w βc [] args0 vs:=by
  refine⟨by rw[a1]; simpa using hr.1,fun i d hd=>?_⟩
  have h3:=a2 i d hd
  rw[Je] at h3
  obtain⟨x,x1,x2⟩:=Qw h3
  exact QhX hh hlv (hr.2 i x x1) x2
 refine(c.run w βc vs hhc hargs).mono ?_
 rintro e w' ⟨v,r,h',β',rfl,ev,hh',hrel,rfl,hf,hR⟩
 have heap_same:∀ b,b<w.heap.size->w'.heap[b]?=w.heap[b]?:=fun b hb=>ev.same b hb (by rintro⟨k,B,h1,_⟩; simp at h1)
 have dead:∀ (k:Nat) (B:Blk),(hp.map (fun B=>(⟨B.ty,false,[]⟩:Blk)))[k]?=some B->B.live=false:=fun k B hk=>by
  rw[Je] at hk
  obtain⟨x,_,x2⟩:=Qw hk
  subst x2; rfl
 have nolive:∀ b,¬ live β (hp.map (fun B=>(⟨B.ty,false,[]⟩:Blk))) b:=by
  rintro b ⟨k,B,h1,h2,_⟩
  rw[dead k B h1] at h2; cases h2
 have e:Evo w β hp w' β (hp.map (fun B=>⟨B.ty,false,[]⟩)):=⟨ev.os,ev.tape,ev.output,ev.size,by simp,fun _ _=>rfl,fun b hb _=>heap_same b hb,fun b C T m h=>⟨C,m,by rw[heap_same b (Jh.1 h).1]; exact h,rfl⟩,fun b _ h=>absurd h (nolive b),rfl⟩
 refine⟨v,r,_,β,rfl,e,?_,hrel.closed hf ?_,rfl,hR⟩
 ·refine ⟨fun k B b h1 h2 h3=>?_,fun k B h1 h2 h3=>?_,fun i j B B' b h1 h2 h3=>?_,fun k B b h1 h2 h3=>?_,fun b hb=>JR (hh.bound b hb) ev.size⟩
  ·rw[dead k B h1] at h2; cases h2
  ·rw[dead k B h1] at h2; cases h2
  ·rw[dead i B h1] at h3; cases h3
  ·rw[dead k B h1] at h2; cases h2
 ·rintro b (hb | hb)
  ·exact .inl (by rw[ev.X]; exact hb)
  ·exact absurd hb (nolive b)
def Qfg(hlt:∀ k∈sel,k<hp.length):QQ hp sel ((sel.map fun k=>hp.getD k default).map (fun B=>⟨B.ty,false,[]⟩))=QkA hp sel:=by
 unfold QQ
 rw[List.drop_of_length_le (by simp),KH,KR]
 apply Kh
 intro k
 rw[QvM,Je]
 by_cases hk:k<hp.length
 ·rw [KD hk,JU]
  have hget:hp[k]?=some hp[k]:=Jb hk
  by_cases hm:k∈sel
  ·have hc:sel.contains k = true:=by simpa using hm
   have hi:=Kd hm
   rw[if_pos hc,if_pos hm,hget,JU]
   congr 1
   rw[Jk,Je,Je,Jb hi]
   simp[Qdx,hget]
  ·have hc:sel.contains k = false:=by simpa using hm
   rw[if_neg (by rw[hc]; simp),if_neg hm,Jk,hget]; rfl
 ·rw [Jv (l:=JZ hp.length) (by simpa using hk),Jv (l:=hp) (by omega)]
  simp
def Qfy(sel:List Nat)(args1:List DV)(h0:Qa)(c:VCalls P g args0 [] (Ret d))(hh0:h0=sel.map fun k=>hp.getD k default)(hpl:Qgq hp sel)(hnd:sel.Nodup)(ha1:args1=args.map (DV.ren fun j=>sel.idxOf j))(ha:DV.nums.go sel.contains args=true)(hf:Qh (args1.map (Qpl h0))=some args0)(h:K d (QkA hp sel)):VCalls P g args hp K:=by
 subst hh0
 have c1:=VCalls.giveA (R:=fun r=>r.nums (fun _=>false)=true/\r=d) hf (c.mono fun r h' e=>⟨e.1,e.2.1,e.2⟩)
 refine(VCalls.frame sel hnd (QcZ hpl) (Qc0 hpl) c1 ha1 ha).mono ?_
 rintro r h2 ⟨r0,h',⟨rfl,hn,rfl⟩,_,rfl,rfl⟩
 rw[Qfg fun k hk=>(Qdq hpl k hk).1,Qe5 _ _ hn]
 exact h
end Go.V
namespace Go.V
open Go
def Quy(h:Sim O β S a w)(hk:S.hp[k]?=some B)(hd:B.cells[j]?=some d)(h1:d'.one=true)(hr:∀ v,RelD w β S.hp d v->RelD w β S.hp d' v):
 Sim O β ⟨S.nt,S.base,S.tm,S.hp.set k ⟨B.ty,B.live,B.cells.set j d'⟩⟩ a w:=by
 have hlt:k<S.hp.length:=(Jf.1 hk).1
 have at_:∀ {i:Nat} {D:Blk},(S.hp.set k ⟨B.ty,B.live,B.cells.set j d'⟩)[i]?=some D->∃ D0,S.hp[i]?=some D0/\D.ty=D0.ty/\D.live=D0.live/\D.cells.length=D0.cells.length/\(D=D0\/(i=k/\D0=B/\D.cells=B.cells.set j d')):=by
  intro i D hi
  rw[J3] at hi
  split at hi
  ·rename_i e
   subst e
   simp[hlt] at hi
   subst hi
   exact⟨B,hk,rfl,rfl,by simp,.inr ⟨rfl,rfl,rfl⟩⟩
  ·exact⟨D,hi,rfl,rfl,rfl,.inl rfl⟩
 have lv:∀ b,live β (S.hp.set k ⟨B.ty,B.live,B.cells.set j d'⟩) b->live β S.hp b:=by
  rintro b ⟨i,D,g1,g2,g3⟩
  obtain⟨D0,e1,_,e3,_⟩:=at_ g1
  exact⟨i,D0,e1,e3▸g2,g3⟩
 have e:Evo w β S.hp w β (S.hp.set k ⟨B.ty,B.live,B.cells.set j d'⟩):=
  ⟨rfl,rfl,rfl,Jm _,by simp,fun _ _=>rfl,fun _ _ _=>rfl,fun _ C _ m h=>⟨C,m,h,rfl⟩,fun b _ hb=>lv b hb,rfl⟩
 have hh:=h.heap
 refine⟨h.defers,h.size,fun t=>(h.tm t).mono e,?_,h.evo.trans e,h.base⟩
 refine⟨fun i D b g1 g2 g3=>?_,fun i D g1 g2 g3=>?_,fun i i2 D D2 b g1 g2 g3 g4 g5 g6=>?_,fun i D b g1 g2 g3=>?_,hh.bound⟩
 ·obtain ⟨D0,e1,e2,e3,e4,e5⟩:=at_ g1
  obtain⟨C,c1,c2,c3⟩:=hh.blk i D0 b e1 (e3▸g2) g3
  refine⟨C,e2▸c1,by rw[e4]; exact c2,fun n x hx=>?_⟩
  rcases e5 with rfl | ⟨rfl,rfl,e6⟩
  ·exact⟨(c3 n x hx).1,(c3 n x hx).2.mono e⟩
  ·rw [e6,J3] at hx
   split at hx
   ·rename_i en
    subst en
    have hjl:j<D0.cells.length:=(Jf.1 hd).1
    simp[hjl] at hx
    subst hx
    exact⟨h1,(hr _ (c3 j d hd).2).mono e⟩
   ·exact⟨(c3 n x hx).1,(c3 n x hx).2.mono e⟩
 ·obtain ⟨D0,e1,e2,e3,e4,e5⟩:=at_ g1
  have:=hh.none i D0 e1 (e3▸g2) g3
  rw[this] at e4
  exact List.length_eq_zero_iff.1 e4
 ·obtain ⟨D0,e1,e2,e3,_⟩:=at_ g1
  obtain⟨D1,f1,f2,f3,_⟩:=at_ g2
  exact hh.inj i i2 D0 D1 b e1 f1 (e3▸g3) (f3▸g4) g5 g6
 ·obtain ⟨D0,e1,e2,e3,_⟩:=at_ g1
  exact hh.avoid i D0 b e1 (e3▸g2) g3
def VWp.nilOwnC (k j:Nat) (T:TypeId) (sz:Nat) (hk:S.hp[k]? = some B) (hd:B.cells[j]? = some (.pv (.slc []))) (h:VWp P c Q ⟨S.nt,S.base,S.tm,(S.hp ++ [(⟨T,true,[]⟩:Blk)]).set k ⟨B.ty,B.live,B.cells.set j (.own S.hp.length sz 0 0)⟩⟩):VWp P c Q S:=fun O β a w hs=>by
 have e:Evo w β S.hp w (ext β S.hp.length none) (S.hp++[(⟨T,true,[]⟩:Blk)]):=by
  refine⟨rfl,rfl,rfl,Jm _,by simp,fun j hj=>Qbf hj,fun _ _ _=>rfl,fun _ C _ m h=>⟨C,m,h,rfl⟩,fun b _ hb=>?_,rfl⟩
  obtain⟨j,D,g1,g2,g3⟩:=hb
  rcases Kg j S.hp.length with hlt | heq | hgt
  ·rw[Ju hlt] at g1; rw[Qbf hlt] at g3; exact⟨j,D,g1,g2,g3⟩
  ·subst heq; simp[ext] at g3
  ·rw[J5 (by omega),Jv (by simp; omega)] at g1; simp at g1
 have h2:Sim O (ext β S.hp.length none) ⟨S.nt,S.base,S.tm,S.hp++[⟨T,true,[]⟩]⟩ a w:=
  ⟨hs.defers,hs.size,fun u=>(hs.tm u).mono e,Qeb hs.heap rfl e (by simp) (fun _=>rfl) (fun _ _=>rfl),hs.evo.trans e,hs.base⟩
 have hlt:k<S.hp.length:=(Jf.1 hk).1
 refine h O _ a w (Quy h2 (k:=k) (j:=j) (B:=B) (d:=.pv (.slc [])) (d':=.own S.hp.length sz 0 0) (by show(S.hp++_)[k]?=_; rw[Ju hlt]; exact hk) hd rfl ?_)
 intro v hv
 cases hv with
 | pv _ _ hp0=>cases hp0 with
   | slc _ ad sz2 val g1 g2 g3 g4 g5=>exact .own0 _ _ ad (by simp) (by simp[ext]) trivial
def VLoop.nilOwnC(k j:Nat)(T:TypeId)(sz:Nat)(hk:S.hp[k]?=some B)(hd:B.cells[j]?=some (.pv (.slc [])))(h:VLoop P c Q ⟨S.nt,S.base,S.tm,(S.hp++[(⟨T,true,[]⟩:Blk)]).set k ⟨B.ty,B.live,B.cells.set j (.own S.hp.length sz 0 0)⟩⟩):VLoop P c Q S:=VWp.nilOwnC k j T sz hk hd h
end Go.V
namespace Go.V
open Go
def Blk.wk(B:Blk):Blk:=⟨B.ty,B.live,DV.wk.go B.cells⟩
def Qn0(tm:List (Nat×DV)):List (Nat×DV):=tm.map fun p=>(p.1,p.2.wk)
def QfN(hp:Qa):Qa:=hp.map Blk.wk
def DV.wk_one(d:DV)(h:d.one=true):d.wk.one=true:=by
 cases d<;>first | rfl | (simp[DV.one] at h)
def Qr6:∀ (tm:List (Nat × DV)) (t:Nat),look (Qn0 tm) t = (look tm t).wk
 | [],_=>rfl
 | (u,d) :: r,t=>by
   simp only[Qn0,Jw,look]
   split
   ·rfl
   ·exact Qr6 r t
def QmE(h:Sim O β S a w):Sim O β ⟨S.nt,S.base,Qn0 S.tm,QfN S.hp⟩ a w:=by
 have at_:∀ {i:Nat} {D:Blk},(QfN S.hp)[i]?=some D->∃ D0,S.hp[i]?=some D0/\D=D0.wk:=by
  intro i D hi
  rw[QfN,Je] at hi
  obtain⟨x,h1,h2⟩:=Qw hi
  exact⟨x,h1,h2.symm⟩
 have lv:∀ b,live β (QfN S.hp) b->live β S.hp b:=by
  rintro b ⟨i,D,g1,g2,g3⟩
  obtain⟨D0,e1,rfl⟩:=at_ g1
  exact⟨i,D0,e1,g2,g3⟩
 have e:Evo w β S.hp w β (QfN S.hp):=
  ⟨rfl,rfl,rfl,Jm _,by simp[QfN],fun _ _=>rfl,fun _ _ _=>rfl,fun _ C _ m h=>⟨C,m,h,rfl⟩,fun b _ hb=>lv b hb,rfl⟩
 have hh:=h.heap
 refine⟨h.defers,h.size,fun t=>by show RelD w β (QfN S.hp) (look (Qn0 S.tm) t) _; rw[Qr6]; exact((h.tm t).mono e).wk,?_,h.evo.trans e,h.base⟩
 refine⟨fun i D b g1 g2 g3=>?_,fun i D g1 g2 g3=>?_,fun i i2 D D2 b g1 g2 g3 g4 g5 g6=>?_,fun i D b g1 g2 g3=>?_,hh.bound⟩
 ·obtain ⟨D0,e1,rfl⟩:=at_ g1
  obtain⟨C,c1,c2,c3⟩:=hh.blk i D0 b e1 g2 g3
  refine⟨C,c1,by show(DV.wk.go D0.cells).length<=_; rw[QX,Jc]; exact c2,fun n x hx=>?_⟩
  have hx2:(DV.wk.go D0.cells)[n]?=some x:=hx
  rw[QX,Je] at hx2
  obtain⟨y,h1,h2⟩:=Qw hx2
  subst h2
  exact⟨DV.wk_one _ (c3 n y h1).1,((c3 n y h1).2.mono e).wk⟩
 ·obtain ⟨D0,e1,rfl⟩:=at_ g1
  have:=hh.none i D0 e1 g2 g3
  show DV.wk.go D0.cells=[]
  rw[this]; rfl
 ·obtain ⟨D0,e1,rfl⟩:=at_ g1
  obtain⟨D1,f1,rfl⟩:=at_ g2
  exact hh.inj i i2 D0 D1 b e1 f1 g3 g4 g5 g6
 ·obtain ⟨D0,e1,rfl⟩:=at_ g1
  exact hh.avoid i D0 b e1 g2 g3
def VWp.wkS(h:VWp P c Q ⟨S.nt,S.base,Qn0 S.tm,QfN S.hp⟩):VWp P c Q S:=fun O β a w hs=>h O β a w (QmE hs)
def VLoop.wkS(h:VLoop P c Q ⟨S.nt,S.base,Qn0 S.tm,QfN S.hp⟩):VLoop P c Q S:=VWp.wkS h
end Go.V
namespace Go.V
open Go
structure FzN(n:Nat)(S S':St):Prop where
 nt:S'.nt=S.nt
 base:S'.base=S.base
 lo:S.base<=n
 hi:n<=S.hp.length
 hp:Qbk n S.hp=some S'.hp
 tm:QCQ n S.hp S.tm S'.tm
def Sim.fzN(h:Sim O β S a w)(g:FzN n S S'):Sim O β S' a w:=by
 have one:∀ {d:DV} {v:Value} {d':DV},RelD w β S.hp d v->frz n S.hp d=some d'->RelD w β S'.hp d' v/\HeapRel w β S'.hp/\S'.hp.length=n/\∀ b,live β S'.hp b->live β S.hp b:=by
  intro d v d' hd hf
  obtain⟨e,hp',⟨r1,r2⟩,k2,k3,k4,k5⟩:=Qdh h.heap g.hi hd (R:=fun e hp'=>e=d'/\hp'=S'.hp) (by unfold QtL; rw[hf,g.hp]; exact⟨rfl,rfl⟩)
  subst r1 r2
  exact⟨k2,k3,k4,k5⟩
 obtain⟨_,k3,k4,k5⟩:=one (d:=.any) (v:=undef) (d':=.any) (.any _) rfl
 refine⟨h.defers,by rw[g.nt]; exact h.size,fun t=>?_,k3,?_,h.base.trans g.base.symm⟩
 ·rcases Qf8 g.tm t with e | e
  ·rw[e]; exact .any _
  ·exact(one (h.tm t) e).1
 ·have ev:=h.evo
  exact⟨ev.os,ev.tape,ev.output,ev.size,by rw[k4]; have:=h.base; have:=g.lo; omega,ev.beta,ev.same,ev.shape,fun b hb hl=>ev.im b hb (k5 b hl),ev.X⟩
def QwE(S S':St):Prop:=QtT S S'\/∃ n S1,QtT S S1/\FzN n S1 S'
def Sim.weakN(h:Sim O β S a w)(g:QwE S S'):∃ β',Sim O β' S' a w:=by
 rcases g with g | ⟨n,S1,g1,g2⟩
 ·exact h.weak g
 ·obtain ⟨β',h'⟩:=h.weak g1
  exact⟨β',h'.fzN g2⟩
def VWp.weakN(S':St)(g:QwE S S')(h:VWp P c Q S'):VWp P c Q S:=fun O β a w hs=>
 let ⟨β',hs'⟩:=hs.weakN g
 h O β' a w hs'
def QAR {c:Code} {Q:Exit->St->Prop} {ι:Type} (I:ι->St) (μ:ι->Nat) (i₀:ι) (h₀:QwE S (I i₀)) (round:∀ i,Qy P c (Qas Q fun S'=>∃ j,μ j < μ i/\QwE S' (I j)) (I i)):VLoop P c Q S:=by
 intro O β a w hs b k cs
 have key:∀ n β i a w,μ i = n->Sim O β (I i) a w ->
  ∃ e a' w',Ql1 O Q e a' w'/\Arrives P (lone (b.at a (.code c::.inLoop c::k)) cs w) b k cs e a' w':=by
  intro n
  induction n using KS with
  | _ n ih =>
    intro β i a w hn hs
    obtain⟨e,a₁,w₁,hq,harr⟩:=Qv c _ _ (round i) O β a w hs b (.inLoop c::k) cs
    obtain⟨β₁,S₁,hs₁,hq⟩:=hq
    cases e with
    | normal =>
      obtain⟨j,hlt,hle⟩:=hq
      obtain⟨β₂,hs₂⟩:=hs₁.weakN hle
      obtain⟨e₂,a₂,w₂,hq₂,harr₂⟩:=ih (μ j) (hn▸hlt) β₂ j a₁ w₁ rfl hs₂
      exact⟨e₂,a₂,w₂,hq₂,.of_steps (Steps.trans harr (.one step_inLoop)) harr₂⟩
    | exit id=>exact⟨_,a₁,w₁,⟨β₁,S₁,hs₁,hq⟩,.pass (x:=.inLoop c) rfl (fun _ _=>.inl (by simp)) harr⟩
    | goto l=>exact⟨_,a₁,w₁,⟨β₁,S₁,hs₁,hq⟩,.pass (x:=.inLoop c) rfl (fun _ _=>.inl (by simp)) harr⟩
    | ret=>exact⟨_,a₁,w₁,⟨β₁,S₁,hs₁,hq⟩,.pass (x:=.inLoop c) rfl (fun _ _=>.inl (by simp)) harr⟩
    | panic ch=>exact⟨_,a₁,w₁,⟨β₁,S₁,hs₁,hq⟩,.pass (x:=.inLoop c) rfl (fun _ _=>.inl (by simp)) harr⟩
    | outgrown=>exact⟨_,a₁,w₁,⟨β₁,S₁,hs₁,hq⟩,.pass (x:=.inLoop c) rfl (fun _ _=>.inl (by simp)) harr⟩
 obtain⟨β₀,hs₀⟩:=hs.weakN h₀
 obtain⟨e,a',w',hq,harr⟩:=key _ β₀ i₀ a w rfl hs₀
 exact⟨e,a',w',hq,.of_steps (.one step_loop) harr⟩
end Go.V
namespace Go.V
def Qkp(h:n<=140737488355328):(n<=140737488355328)=True:=eq_true h
end Go.V
namespace Go.V
def QfT(e:Enc α)(l:List α)(T:TypeId)(a b:Nat)(h:a<=b/\b<=l.length):QnK (some (none,T,e.sz)) (fz e l) a b=some (.pv (.sl (fz e ((l.take b).drop a)))):=by
 have h1:fz e l=[]\/(fz e l)[0]?.map Kz=some e.sz:=by
  cases l with
  | nil=>exact .inl rfl
  | cons x r=>exact .inr (QsD e (x::r) (by simp))
 simp only[QnK]
 rw[if_pos ⟨h.1,by rw[Qc3]; exact h.2,h1⟩,QsC,QzI]
end Go.V
namespace Go.V
def Qfc(e:Enc α)(l:List α):(fz e l=[]\/(fz e l)[0]?.map Kz=some e.sz)=True:=by
 refine eq_true ?_
 cases l with
 | nil=>exact .inl rfl
 | cons x r=>exact .inr (QsD e (x::r) (by simp))
def Qb4(n:Nat):((n:Int)+1).toNat=n+1:=by omega
def Qbt(n:Nat):((n:Int)-1).toNat=n-1:=by omega
end Go.V
namespace Go.V
open Go
attribute [go_sem ↓] Qr7 Qxw Qxx QtW QxD Qti Qml Qtl Qwl QoU Qtj Qtk Qwm Qgr Qkd QiM Qhc QlQ Qke QpC QqR QqN Qob QqQ QqP QqO Qyg Qt8 Qwe Qwb Qs8 Qwd Qwc Qtm QnI Que Qp5 QpG Ql5 QvO Qxk QtV Qxm
attribute [go_sem] Qt1 Qjz QlS QsS QnP Qg4 QiN Qmg Qt0 Qjy QlR QsR QpO Qis Qxt Qls QpM Qiq Qkh QoI QgZ QdX Qt2 QjA QlT QpI Qim Qkf Qjl Qfq Qgs Qi2 QpN Qir Qki QoJ QtZ Qjx QsQ Qlh Qf3 Qhd Qjm Qfr Qif QeM QpJ Qin Qkg Qih QeO Qfu Qhl QpL Qip Qig QeN Qft Qhk QpK Qio QoG Qlg Qf2 QkK QsT QoE QkL QoF QsU Qop Qli Qf4 Qil QxJ QrG Qvq Qz6 QzR Qwt Qww Qwu Qwv Qwj Qwi Qwx QAn QCp QCq QCo Qvt Qt3 QnO Quo Qqo Qqp Qup Qqr Qqn Quq Qqq Qpx QrO QrN Qol QB8 Qv6 QzX QlV Qkj Qhe QiO Qgv Qvm Qvn QDI QsV QsW QoA Qoz QpV Qt6 QpU QzL QB3 QzK QzJ QvY QzM QvX QzQ Qv1 Qmq Qfj QkJ QyD QyC QtX QpF QvF Qy9 Qxz QxA Qt4 Qt5 Qqs Qxi Qxj Qwq Qwr Quz QuA QCn QwC Qp6 Qpc Qms QBE QyU QyV QBF QsZ QpY Qv5 QpZ QoL Qt7 QtY Qxs QvS Qjn Qsx QpT Qsw QpS Qss QpR Qsq QpQ QAl QAk Qzz Qzm Qzs Qzy QBZ Qzl Qzx Qzr Qzt Qzu Qzv Qzw Qzq Qzp Qzo Qzn QcR Qx1 QxZ QA5 QA4 QzW QBS QAS Qzb Qzc Qza Qxu QCt Qtv QAs QAu QAt QCr QCs QrK Qoo Qv7 Qs0 QyX Qvv QrR QyW Qwk QxI QB9 QpW QnU QnV QDJ Quw Qmb QoC QlC QlB QjR QjQ Qg9 QpA Qpz Qws QxM QxL QAm QxP QxO QyR QyQ QrF pvs List.flatten_nil KH Qcl QjD Qfo Qa1 Qk7 Qlf QxN QcQ QpP V.kill QkA List.toList_toArray List.getElem?_cons_zero Ko List.getElem?_nil Ja Jd Jw KM KT KR KB List.take_zero List.take_nil KC Kx List.drop_nil List.set_cons_zero List.set_cons_succ List.any_nil List.any_cons JU Option.map_none Option.bind_some Ka Option.getD_none Ke Ki JK Nat.add_zero Nat.zero_mul K0 KP decide_true decide_false true_and and_true and_self false_and and_false true_or or_true or_false false_or or_self not_true_eq_false not_false_eq_true ne_eq J4 J0 Bool.or_true Bool.true_or Bool.or_false Bool.false_or Bool.and_true Bool.true_and Bool.and_false Bool.false_and Bool.or_self Bool.and_self Bool.not_not QAo QAp cond_true cond_false Bool.cond_self beq_self_eq_true Nat.lt_irrefl Jm Qpy Qxl Qvs QrI Qom Qtb QoP Qtd Qte Qtf QkR QtG Qpe Qmt Qn7 QlD Op.operands Qvp QvZ QB4 QB5 QvE Qc3 Qo0 Qo2 Qa7 Qto Jj Qh6 Qo1 QzH QEg DV.wk DV.wk.go PV.wk QEn QEq Qv0 QsI QsH QzP QzO Qbz QnF QDD QDE Qso Qsp Qsm Qsn Ret DV.nums DV.nums.go
end Go.V
namespace Go.V
def polyB:BitVec 32:=2197175160#32
def rb(r:BitVec 32):BitVec 32:=(r >>> 1) ^^^ (if r.getLsbD 0=true then polyB else 0#32)
def rbN:Nat->BitVec 32->BitVec 32
 | 0,r=>r
 | n+1,r=>rb (rbN n r)
def QBB(x y:BitVec 32):rb (x ^^^ y)=rb x ^^^ rb y:=by
 apply BitVec.eq_of_getLsbD_eq
 intro i hi
 simp only[rb,BitVec.getLsbD_xor,BitVec.getLsbD_ushiftRight]
 cases x.getLsbD 0<;>cases y.getLsbD 0<;>simp<;>cases x.getLsbD (1+i)<;>cases y.getLsbD (1+i)<;>cases polyB.getLsbD i<;>rfl
def QyK(n:Nat)(x y:BitVec 32):rbN n (x ^^^ y)=rbN n x ^^^ rbN n y:=by
 induction n with
 | zero=>rfl
 | succ n ih=>simp only[rbN,ih,QBB]
def QyM(m n:Nat)(x:BitVec 32):rbN (m+n) x=rbN m (rbN n x):=by
 induction m with
 | zero=>simp[rbN]
 | succ m ih=>rw[KE]; simp only[rbN,ih]
def QyL (n:Nat) (x:BitVec 32) (h:∀ i,i < n->x.getLsbD i = false):rbN n x = x >>> n:=by
 induction n with
 | zero=>simp[rbN]
 | succ n ih =>
   rw[rbN,ih (fun i hi=>h i (by omega)),rb]
   have e:(x >>> n).getLsbD 0=false:=by rw[BitVec.getLsbD_ushiftRight]; exact h _ (by omega)
   rw[e]
   simp[BitVec.shiftRight_add]
def b32(b:UInt8):BitVec 32:=b.toBitVec.setWidth 32
def cb(r:BitVec 32)(b:UInt8):BitVec 32:=rbN 8 (r ^^^ b32 b)
def le:List UInt8->BitVec 32
 | []=>0#32
 | b::l=>b32 b ^^^ (le l <<< 8)
def Qx9(x:BitVec 32)(n:Nat)(h:∀ i,32-n<=i->x.getLsbD i=false)(hn:n<=32):rbN n (x <<< n)=x:=by
 rw[QyL _ _ (fun i hi=>by simp[BitVec.getLsbD_shiftLeft,hi])]
 apply BitVec.eq_of_getLsbD_eq
 intro i hi
 simp only[BitVec.getLsbD_ushiftRight,BitVec.getLsbD_shiftLeft]
 by_cases h1:n+i<32
 ·simp[h1]
 ·simp[h1]; rw[h i (by omega)]
def QcH(b:BitVec 32):IntKind.u32.wrap (b.toNat:Int)=(b.toNat:Int):=by
 have:=b.isLt
 simp[IntKind.wrap,IntKind.signed,IntKind.bits]; omega
def Qeh(x:BitVec 32):BitVec.ofInt 32 (x.toNat:Int)=x:=by
 apply BitVec.eq_of_toNat_eq
 have:=x.isLt
 simp
def Qpr(x y:BitVec 32):bits .xor .u32 (x.toNat:Int) (y.toNat:Int)=((x ^^^ y).toNat:Int):=by
 show IntKind.u32.wrap ((BitVec.ofInt 32 (x.toNat:Int) ^^^ BitVec.ofInt 32 (y.toNat:Int)).toNat:Int)=_
 rw[Qeh,Qeh,QcH]
def QCv(x y:BitVec 32):bits .and .u32 (x.toNat:Int) (y.toNat:Int)=((x &&& y).toNat:Int):=by
 show IntKind.u32.wrap ((BitVec.ofInt 32 (x.toNat:Int) &&& BitVec.ofInt 32 (y.toNat:Int)).toNat:Int)=_
 rw[Qeh,Qeh,QcH]
def QBe(x:BitVec 32)(n:Nat):(x.toNat:Int).fdiv (2 ^ n)=((x >>> n).toNat:Int):=by
 have e:((2:Int) ^ n)=((2 ^ n:Nat):Int):=by rw[Int.natCast_pow]; rfl
 rw[e,Int.fdiv_eq_ediv_of_nonneg _ (Int.natCast_nonneg _),BitVec.toNat_ushiftRight,Nat.shiftRight_eq_div_pow]
 rfl
def Qtx(b:UInt8):IntKind.u32.wrap (b.toNat:Int)=((b32 b).toNat:Int):=by
 have e:(b32 b).toNat=b.toNat:=by
  have:=b.toNat_lt
  simp[b32]
 rw[<- e,QcH]
end Go.V
namespace Go.V
open Go
variable {α:Type} (e:Enc α)
theorem QqD(l:List α)(i:Nat)(x:α)(h:i<l.length):splice (cells e l) (i*e.sz) ((e.enc x).map DV.pv)=cells e (l.set i x):=by
 have:=QjP e l [x] i
 rw[List.set_eq_take_append_cons_drop,if_pos h]
 rw[show l.take i++x::l.drop (i+1)=l.take i++[x]++l.drop (i+[x].length) by simp,<- this]
 congr 1
 simp[cells]
end Go.V
namespace Go.V
open Go
def QzC(hh:HeapRel w β hp):HeapRel w β (QfN hp)/\Evo w β hp w β (QfN hp):=by
 have at_:∀ {i:Nat} {D:Blk},(QfN hp)[i]?=some D->∃ D0,hp[i]?=some D0/\D=D0.wk:=by
  intro i D hi
  rw[QfN,Je] at hi
  obtain⟨x,h1,h2⟩:=Qw hi
  exact⟨x,h1,h2.symm⟩
 have lv:∀ b,live β (QfN hp) b->live β hp b:=by
  rintro b ⟨i,D,g1,g2,g3⟩
  obtain⟨D0,e1,rfl⟩:=at_ g1
  exact⟨i,D0,e1,g2,g3⟩
 have e:Evo w β hp w β (QfN hp):=
  ⟨rfl,rfl,rfl,Jm _,by simp[QfN],fun _ _=>rfl,fun _ _ _=>rfl,fun _ C _ m h=>⟨C,m,h,rfl⟩,fun b _ hb=>lv b hb,rfl⟩
 refine⟨⟨fun i D b g1 g2 g3=>?_,fun i D g1 g2 g3=>?_,fun i i2 D D2 b g1 g2 g3 g4 g5 g6=>?_,fun i D b g1 g2 g3=>?_,hh.bound⟩,e⟩
 ·obtain ⟨D0,e1,rfl⟩:=at_ g1
  obtain⟨C,c1,c2,c3⟩:=hh.blk i D0 b e1 g2 g3
  refine⟨C,c1,by show(DV.wk.go D0.cells).length<=_; rw[QX,Jc]; exact c2,fun n x hx=>?_⟩
  have hx2:(DV.wk.go D0.cells)[n]?=some x:=hx
  rw[QX,Je] at hx2
  obtain⟨y,h1,h2⟩:=Qw hx2
  subst h2
  exact⟨DV.wk_one _ (c3 n y h1).1,((c3 n y h1).2.mono e).wk⟩
 ·obtain ⟨D0,e1,rfl⟩:=at_ g1
  have:=hh.none i D0 e1 g2 g3
  show DV.wk.go D0.cells=[]
  rw[this]; rfl
 ·obtain ⟨D0,e1,rfl⟩:=at_ g1
  obtain⟨D1,f1,rfl⟩:=at_ g2
  exact hh.inj i i2 D0 D1 b e1 f1 g3 g4 g5 g6
 ·obtain ⟨D0,e1,rfl⟩:=at_ g1
  exact hh.avoid i D0 b e1 g2 g3
def VCalls.wkH(c:VCalls P g (DV.wk.go args) (QfN hp) R):VCalls P g args hp R:=by
 refine VCalls.wkA ⟨fun w β vs hh ha=>?_⟩
 obtain⟨h1,e1⟩:=QzC hh
 refine(c.run w β vs h1 ⟨ha.1,fun i d hd=>(ha.2 i d hd).mono e1⟩).mono ?_
 rintro _ w' ⟨v,r,h',β',a,b,c,d,k⟩
 exact⟨v,r,h',β',a,e1.trans b,c,d,k⟩
theorem QfM:QfN []=[]:=rfl
theorem Qen:QfN (B::r)=⟨B.ty,B.live,DV.wk.go B.cells⟩::QfN r:=rfl
theorem QdV:DV.wk.go []=[]:=rfl
theorem Qdf:DV.wk.go (d::r)=d.wk::DV.wk.go r:=rfl
end Go.V
namespace Go.V
open Go
end Go.V
namespace Go.V
open Go
def SimLe(S S':St):Prop:=∀ (O:Org) (β:Map) (a:Act) (w:World),Sim O β S a w->∃ β',Sim O β' S' a w
def SimLe.refl(S:St):SimLe S S:=fun _ β _ _ h=>⟨β,h⟩
def SimLe.trans(h:SimLe S S1)(g:SimLe S1 S2):SimLe S S2:=fun O β a w hs=>
 let ⟨β1,h1⟩:=h O β a w hs
 g O β1 a w h1
def SimLe.weak(h:QtT S S'):SimLe S S':=fun _ _ _ _ hs=>hs.weak h
def SimLe.fzN(h:FzN n S S'):SimLe S S':=fun _ β _ _ hs=>⟨β,hs.fzN h⟩
def SimLe.wk(h:SimLe ⟨S.nt,S.base,Qn0 S.tm,QfN S.hp⟩ S'):SimLe S S':=fun O β a w hs=>h O β a w (QmE hs)
def VWp.simLe(S':St)(g:SimLe S S')(h:VWp P c Q S'):VWp P c Q S:=fun O β a w hs=>
 let ⟨β',hs'⟩:=g O β a w hs
 h O β' a w hs'
def VLoop.simLe(S':St)(g:SimLe S S')(h:VLoop P c Q S'):VLoop P c Q S:=VWp.simLe S' g h
def VDraw.simLe{id:Nat}(S':St)(g:SimLe S S')(h:VDraw P id ops Q S'):VDraw P id ops Q S:=VWp.simLe S' g h
def Qoy:Nat->Code->Code
 | n+1,.seq a b=>.seq a (Qoy n b)
 | _,_=>.skip
def QiG:Nat->Code->Code
 | n+1,.seq _ b=>QiG n b
 | _,c=>c
def QC9:∀ (n:Nat) {c:Code} {Q:Exit->St->Prop} {S:St},Qy P (Qoy n c) (Qas Q fun S'=>∃ S'',SimLe S' S''/\VWp P (QiG n c) Q S'') S->VWp P c Q S
 | 0,c,Q,S,h=>by
   have h:∃ S'',SimLe S S''/\VWp P (QiG 0 c) Q S'':=by cases c<;>exact h
   obtain⟨S'',h1,h2⟩:=h
   cases c<;>exact VWp.simLe S'' h1 h2
 | n + 1,c,Q,S,h=>by
   cases c with
   | seq a b =>
     intro O β ac w hs
     simp only[Qoy,Qy] at h
     refine wp_seq (wp_mono (Qv a _ S h O β ac w hs) fun e a' w' hq=>?_)
     obtain⟨β',S',hs',hq⟩:=hq
     cases e with
     | normal=>exact QC9 n (c:=b) hq O β' a' w' hs'
     | _=>exact⟨β',S',hs',hq⟩
   | _ =>
     obtain⟨S'',h1,h2⟩:=(h:∃ S'',SimLe S S''/\_)
     exact VWp.simLe S'' h1 h2
theorem Qmx:Qn0 []=[]:=rfl
theorem QjI:Qn0 ((t,d)::r)=(t,d.wk)::Qn0 r:=rfl
def QwH(a b:List DV):DV.wk.go (a++b)=DV.wk.go a++DV.wk.go b:=by rw[QX,QX,QX,Kp]
theorem QkE:Qoy (n+1) (.seq a b)=.seq a (Qoy n b):=rfl
def QhU:Qoy 0 c=.skip:=by cases c<;>rfl
theorem Qj0:QiG (n+1) (.seq a b)=QiG n b:=rfl
def QhL:QiG 0 c=c:=by cases c<;>rfl
def QxE(h:Qy P c Q ⟨S.nt,S.base,Qn0 S.tm,QfN S.hp⟩):∃ S'',SimLe S S''/\VWp P c Q S'':=
 ⟨_,.wk (.refl _),Qv _ _ _ h⟩
def QfX(P:Program)(rs:List ResultVar)(n:Nat)(R:DV->Qa->Prop)(e:Exit)(S:St):Prop:=QeJ P rs n R e ⟨S.nt,S.base,Qn0 S.tm,QfN S.hp⟩
def QnN:QfX P rs n R .ret S=QeJ P rs n R .ret ⟨S.nt,S.base,Qn0 S.tm,QfN S.hp⟩:=(rfl)
def VWp.postK(h:VWp P c (QfX P rs n R) S):VWp P c (QeJ P rs n R) S:=fun O β a w hs=>
 wp_mono (h O β a w hs) fun _ _ _ ⟨β',_,hs',hq⟩=>⟨β',_,QmE hs',hq⟩
def Qjv(hf:P.funcs[g]?=some fn)(hb:fn.body=some c)(hname:(fn.name == "runtime.NumGoroutine")=false)(hn:args.length<=fn.ntmps)(hc:Qy P c (QfX P fn.results.toList h.length R) ⟨fn.ntmps,h.length,Qhn 0 args,h⟩):VCalls P g args h R:=
 QcO hf hb hname hn (Qv c _ _ hc).postK
attribute [go_sem ↓] QnN
attribute [go_sem] Qmx QjI QfM Qen QdV Qdf
end Go.V
namespace Go.V
open Go
variable {α:Type} (e:Enc α)
end Go.V
namespace Go.V
open Go
def rn{A P Q:Prop}(a:A)(q:Q)(h:A->P=Q:=by intro f1; (try simp(maxSteps:=2000000) (implicitDefEqProofs:=false) (disch:=first | omega | assumption | (simp only[List.length_cons,List.length_nil,Nat.zero_add,Nat.reduceAdd]; done) | (simp only[IntKind.wrap_i64]; omega) | (simp only[List.length_replicate,List.length_set,List.length_append,List.length_cons,List.length_nil,List.length_take,List.length_drop,List.length_map]<;>omega) | fail) only[go_sem,V.splice,V.mk,mkI,mkB,mkU,↓reduceIte,reduceCtorEq,Nat.reduceAdd,Nat.reduceLT,Nat.reduceLeDiff,Nat.reduceEqDiff,Nat.reduceMul,Nat.reduceSub,Nat.reduceBEq,Nat.reduceDiv,Nat.reducePow,Int.reduceToNat,Int.reduceLT,Int.reduceLE,Int.reduceNeg,Int.reduceAdd,Int.reduceSub,Int.reduceMul,Int.reduceEq,Int.reduceBEq,Int.reduceBNe,f1]); exact rfl):P:=(h a).mpr q
def rd{A P:Prop}(a:A)(h:A->P:=by intro f1; first | (simp(maxSteps:=2000000) (implicitDefEqProofs:=false) (disch:=first | omega | assumption | (simp only[List.length_cons,List.length_nil,Nat.zero_add,Nat.reduceAdd]; done) | (simp only[IntKind.wrap_i64]; omega) | (simp only[List.length_replicate,List.length_set,List.length_append,List.length_cons,List.length_nil,List.length_take,List.length_drop,List.length_map]<;>omega) | fail) only[go_sem,V.splice,V.mk,mkI,mkB,mkU,↓reduceIte,reduceCtorEq,Nat.reduceAdd,Nat.reduceLT,Nat.reduceLeDiff,Nat.reduceEqDiff,Nat.reduceMul,Nat.reduceSub,Nat.reduceBEq,Nat.reduceDiv,Nat.reducePow,Int.reduceToNat,Int.reduceLT,Int.reduceLE,Int.reduceNeg,Int.reduceAdd,Int.reduceSub,Int.reduceMul,Int.reduceEq,Int.reduceBEq,Int.reduceBNe,f1]<;>fail "no") | fail "no"):P:=h a
def sG{A X Y Q1 Q2:Prop}{all:List Oper}{o:Oper}{r:List Oper}{K:St->Prop}{G:Bool}(a:A)(q1:X->Q1)(q2:Y->Q2)(hx:(G=true)=X:=by(try simp only[decide_eq_true_eq,decide_eq_false_iff_not,Bool.or_eq_true,Bool.and_eq_true,Bool.or_eq_false_iff,Bool.and_eq_false_imp,Bool.not_eq_true',Bool.not_eq_false',beq_iff_eq,beq_eq_false_iff_ne,bne_iff_ne,bne_eq_false_iff_eq,ne_eq,Bool.not_eq_eq_eq_not,Bool.not_true,Bool.not_false,Int.not_lt,Int.not_le,Nat.not_lt,Nat.not_le]); exact rfl)(hy:(G=false)=Y:=by(try simp only[decide_eq_true_eq,decide_eq_false_iff_not,Bool.or_eq_true,Bool.and_eq_true,Bool.or_eq_false_iff,Bool.and_eq_false_imp,Bool.not_eq_true',Bool.not_eq_false',beq_iff_eq,beq_eq_false_iff_ne,bne_iff_ne,bne_eq_false_iff_eq,ne_eq,Bool.not_eq_eq_eq_not,Bool.not_true,Bool.not_false,Int.not_lt,Int.not_le,Nat.not_lt,Nat.not_le]); exact rfl)(h1:A->X->G=true->(QeI P all o r K S true)=Q1:=by intro f1 hZ hG; (try rewrite [hG]); (first | rewrite [(hZ:_=false)] | rewrite [(hZ:_=true)] | skip); (try simp(maxSteps:=2000000) (implicitDefEqProofs:=false) (disch:=first | omega | assumption | (simp only[List.length_cons,List.length_nil,Nat.zero_add,Nat.reduceAdd]; done) | (simp only[IntKind.wrap_i64]; omega) | (simp only[List.length_replicate,List.length_set,List.length_append,List.length_cons,List.length_nil,List.length_take,List.length_drop,List.length_map]<;>omega) | fail) only[go_sem,V.splice,V.mk,mkI,mkB,mkU,↓reduceIte,reduceCtorEq,Nat.reduceAdd,Nat.reduceLT,Nat.reduceLeDiff,Nat.reduceEqDiff,Nat.reduceMul,Nat.reduceSub,Nat.reduceBEq,Nat.reduceDiv,Nat.reducePow,Int.reduceToNat,Int.reduceLT,Int.reduceLE,Int.reduceNeg,Int.reduceAdd,Int.reduceSub,Int.reduceMul,Int.reduceEq,Int.reduceBEq,Int.reduceBNe,f1]); exact rfl)(h2:A->Y->G=false->(QeI P all o r K S false)=Q2:=by intro f1 hZ hG; (try rewrite [hG]); (first | rewrite [(hZ:_=false)] | rewrite [(hZ:_=true)] | skip); (try simp(maxSteps:=2000000) (implicitDefEqProofs:=false) (disch:=first | omega | assumption | (simp only[List.length_cons,List.length_nil,Nat.zero_add,Nat.reduceAdd]; done) | (simp only[IntKind.wrap_i64]; omega) | (simp only[List.length_replicate,List.length_set,List.length_append,List.length_cons,List.length_nil,List.length_take,List.length_drop,List.length_map]<;>omega) | fail) only[go_sem,V.splice,V.mk,mkI,mkB,mkU,↓reduceIte,reduceCtorEq,Nat.reduceAdd,Nat.reduceLT,Nat.reduceLeDiff,Nat.reduceEqDiff,Nat.reduceMul,Nat.reduceSub,Nat.reduceBEq,Nat.reduceDiv,Nat.reducePow,Int.reduceToNat,Int.reduceLT,Int.reduceLE,Int.reduceNeg,Int.reduceAdd,Int.reduceSub,Int.reduceMul,Int.reduceEq,Int.reduceBEq,Int.reduceBNe,f1]); exact rfl):QeI P all o r K S G:=
 QfW (fun e=>by subst e; exact(h1 a (hx▸rfl) rfl).mpr (q1 (hx▸rfl))) (fun e=>by subst e; exact(h2 a (hy▸rfl) rfl).mpr (q2 (hy▸rfl)))
def sD{A X Y Q1 Q2:Prop}{all:List Oper}{o:Oper}{r:List Oper}{fs:List (List Nat×Bool)}{K:St->Prop}{G:Bool}(a:A)(q1:X->Q1)(q2:Y->Q2)(hx:(G=true)=X:=by(try simp only[decide_eq_true_eq,decide_eq_false_iff_not,Bool.or_eq_true,Bool.and_eq_true,Bool.or_eq_false_iff,Bool.and_eq_false_imp,Bool.not_eq_true',Bool.not_eq_false',beq_iff_eq,beq_eq_false_iff_ne,bne_iff_ne,bne_eq_false_iff_eq,ne_eq,Bool.not_eq_eq_eq_not,Bool.not_true,Bool.not_false,Int.not_lt,Int.not_le,Nat.not_lt,Nat.not_le]); exact rfl)(hy:(G=false)=Y:=by(try simp only[decide_eq_true_eq,decide_eq_false_iff_not,Bool.or_eq_true,Bool.and_eq_true,Bool.or_eq_false_iff,Bool.and_eq_false_imp,Bool.not_eq_true',Bool.not_eq_false',beq_iff_eq,beq_eq_false_iff_ne,bne_iff_ne,bne_eq_false_iff_eq,ne_eq,Bool.not_eq_eq_eq_not,Bool.not_true,Bool.not_false,Int.not_lt,Int.not_le,Nat.not_lt,Nat.not_le]); exact rfl)(h1:A->X->G=true->(QnW P all o r fs K S true)=Q1:=by intro f1 hZ hG; (try rewrite [hG]); (first | rewrite [(hZ:_=false)] | rewrite [(hZ:_=true)] | skip); (try simp(maxSteps:=2000000) (implicitDefEqProofs:=false) (disch:=first | omega | assumption | (simp only[List.length_cons,List.length_nil,Nat.zero_add,Nat.reduceAdd]; done) | (simp only[IntKind.wrap_i64]; omega) | (simp only[List.length_replicate,List.length_set,List.length_append,List.length_cons,List.length_nil,List.length_take,List.length_drop,List.length_map]<;>omega) | fail) only[go_sem,V.splice,V.mk,mkI,mkB,mkU,↓reduceIte,reduceCtorEq,Nat.reduceAdd,Nat.reduceLT,Nat.reduceLeDiff,Nat.reduceEqDiff,Nat.reduceMul,Nat.reduceSub,Nat.reduceBEq,Nat.reduceDiv,Nat.reducePow,Int.reduceToNat,Int.reduceLT,Int.reduceLE,Int.reduceNeg,Int.reduceAdd,Int.reduceSub,Int.reduceMul,Int.reduceEq,Int.reduceBEq,Int.reduceBNe,f1]); exact rfl)(h2:A->Y->G=false->(QnW P all o r fs K S false)=Q2:=by intro f1 hZ hG; (try rewrite [hG]); (first | rewrite [(hZ:_=false)] | rewrite [(hZ:_=true)] | skip); (try simp(maxSteps:=2000000) (implicitDefEqProofs:=false) (disch:=first | omega | assumption | (simp only[List.length_cons,List.length_nil,Nat.zero_add,Nat.reduceAdd]; done) | (simp only[IntKind.wrap_i64]; omega) | (simp only[List.length_replicate,List.length_set,List.length_append,List.length_cons,List.length_nil,List.length_take,List.length_drop,List.length_map]<;>omega) | fail) only[go_sem,V.splice,V.mk,mkI,mkB,mkU,↓reduceIte,reduceCtorEq,Nat.reduceAdd,Nat.reduceLT,Nat.reduceLeDiff,Nat.reduceEqDiff,Nat.reduceMul,Nat.reduceSub,Nat.reduceBEq,Nat.reduceDiv,Nat.reducePow,Int.reduceToNat,Int.reduceLT,Int.reduceLE,Int.reduceNeg,Int.reduceAdd,Int.reduceSub,Int.reduceMul,Int.reduceEq,Int.reduceBEq,Int.reduceBNe,f1]); exact rfl):QnW P all o r fs K S G:=
 Qhz (fun e=>by subst e; exact(h1 a (hx▸rfl) rfl).mpr (q1 (hx▸rfl))) (fun e=>by subst e; exact(h2 a (hy▸rfl) rfl).mpr (q2 (hy▸rfl)))
def sB{A X Y Q1 Q2:Prop}{c d:Code}{Q:Exit->St->Prop}{G:Bool}(a:A)(q1:X->Q1)(q2:Y->Q2)(hx:(G=true)=X:=by(try simp only[decide_eq_true_eq,decide_eq_false_iff_not,Bool.or_eq_true,Bool.and_eq_true,Bool.or_eq_false_iff,Bool.and_eq_false_imp,Bool.not_eq_true',Bool.not_eq_false',beq_iff_eq,beq_eq_false_iff_ne,bne_iff_ne,bne_eq_false_iff_eq,ne_eq,Bool.not_eq_eq_eq_not,Bool.not_true,Bool.not_false,Int.not_lt,Int.not_le,Nat.not_lt,Nat.not_le]); exact rfl)(hy:(G=false)=Y:=by(try simp only[decide_eq_true_eq,decide_eq_false_iff_not,Bool.or_eq_true,Bool.and_eq_true,Bool.or_eq_false_iff,Bool.and_eq_false_imp,Bool.not_eq_true',Bool.not_eq_false',beq_iff_eq,beq_eq_false_iff_ne,bne_iff_ne,bne_eq_false_iff_eq,ne_eq,Bool.not_eq_eq_eq_not,Bool.not_true,Bool.not_false,Int.not_lt,Int.not_le,Nat.not_lt,Nat.not_le]); exact rfl)(h1:A->X->G=true->(Qy P c Q S)=Q1:=by intro f1 hZ hG; (try rewrite [hG]); (first | rewrite [(hZ:_=false)] | rewrite [(hZ:_=true)] | skip); (try simp(maxSteps:=2000000) (implicitDefEqProofs:=false) (disch:=first | omega | assumption | (simp only[List.length_cons,List.length_nil,Nat.zero_add,Nat.reduceAdd]; done) | (simp only[IntKind.wrap_i64]; omega) | (simp only[List.length_replicate,List.length_set,List.length_append,List.length_cons,List.length_nil,List.length_take,List.length_drop,List.length_map]<;>omega) | fail) only[go_sem,V.splice,V.mk,mkI,mkB,mkU,↓reduceIte,reduceCtorEq,Nat.reduceAdd,Nat.reduceLT,Nat.reduceLeDiff,Nat.reduceEqDiff,Nat.reduceMul,Nat.reduceSub,Nat.reduceBEq,Nat.reduceDiv,Nat.reducePow,Int.reduceToNat,Int.reduceLT,Int.reduceLE,Int.reduceNeg,Int.reduceAdd,Int.reduceSub,Int.reduceMul,Int.reduceEq,Int.reduceBEq,Int.reduceBNe,f1]); exact rfl)(h2:A->Y->G=false->(Qy P d Q S)=Q2:=by intro f1 hZ hG; (try rewrite [hG]); (first | rewrite [(hZ:_=false)] | rewrite [(hZ:_=true)] | skip); (try simp(maxSteps:=2000000) (implicitDefEqProofs:=false) (disch:=first | omega | assumption | (simp only[List.length_cons,List.length_nil,Nat.zero_add,Nat.reduceAdd]; done) | (simp only[IntKind.wrap_i64]; omega) | (simp only[List.length_replicate,List.length_set,List.length_append,List.length_cons,List.length_nil,List.length_take,List.length_drop,List.length_map]<;>omega) | fail) only[go_sem,V.splice,V.mk,mkI,mkB,mkU,↓reduceIte,reduceCtorEq,Nat.reduceAdd,Nat.reduceLT,Nat.reduceLeDiff,Nat.reduceEqDiff,Nat.reduceMul,Nat.reduceSub,Nat.reduceBEq,Nat.reduceDiv,Nat.reducePow,Int.reduceToNat,Int.reduceLT,Int.reduceLE,Int.reduceNeg,Int.reduceAdd,Int.reduceSub,Int.reduceMul,Int.reduceEq,Int.reduceBEq,Int.reduceBNe,f1]); exact rfl):vbr P c d Q S G:=
 QaP (fun e=>by subst e; exact(h1 a (hx▸rfl) rfl).mpr (q1 (hx▸rfl))) (fun e=>by subst e; exact(h2 a (hy▸rfl) rfl).mpr (q2 (hy▸rfl)))
def vp{A Q:Prop}{g:FuncId}{args:List DV}{hp:Qa}{K:DV->Qa->Prop}{d:DV}(a:A)(c:VCalls P g args [] (Ret d))(q:Q)(ha:DV.nums.go (fun _=>false) args=true:=by rfl)(h:A->K d hp=Q:=by intro f1; (try simp(maxSteps:=2000000) (implicitDefEqProofs:=false) (disch:=first | omega | assumption | (simp only[List.length_cons,List.length_nil,Nat.zero_add,Nat.reduceAdd]; done) | (simp only[IntKind.wrap_i64]; omega) | (simp only[List.length_replicate,List.length_set,List.length_append,List.length_cons,List.length_nil,List.length_take,List.length_drop,List.length_map]<;>omega) | fail) only[go_sem,V.splice,V.mk,mkI,mkB,mkU,↓reduceIte,reduceCtorEq,Nat.reduceAdd,Nat.reduceLT,Nat.reduceLeDiff,Nat.reduceEqDiff,Nat.reduceMul,Nat.reduceSub,Nat.reduceBEq,Nat.reduceDiv,Nat.reducePow,Int.reduceToNat,Int.reduceLT,Int.reduceLE,Int.reduceNeg,Int.reduceAdd,Int.reduceSub,Int.reduceMul,Int.reduceEq,Int.reduceBEq,Int.reduceBNe,f1]); exact rfl):VCalls P g args hp K:=Qac c ha ((h a).mpr q)
def vd{A Q:Prop}{g:FuncId}{args:List DV}{K:DV->Prop}{d:DV}(a:A)(c:VCalls P g args [] (Ret d))(q:Q)(ha:DV.nums.go (fun _=>false) args=true:=by rfl)(hd:d.nums (fun _=>false)=true:=by rfl)(h:A->K d=Q:=by intro f1; (try simp(maxSteps:=2000000) (implicitDefEqProofs:=false) (disch:=first | omega | assumption | (simp only[List.length_cons,List.length_nil,Nat.zero_add,Nat.reduceAdd]; done) | (simp only[IntKind.wrap_i64]; omega) | (simp only[List.length_replicate,List.length_set,List.length_append,List.length_cons,List.length_nil,List.length_take,List.length_drop,List.length_map]<;>omega) | fail) only[go_sem,V.splice,V.mk,mkI,mkB,mkU,↓reduceIte,reduceCtorEq,Nat.reduceAdd,Nat.reduceLT,Nat.reduceLeDiff,Nat.reduceEqDiff,Nat.reduceMul,Nat.reduceSub,Nat.reduceBEq,Nat.reduceDiv,Nat.reducePow,Int.reduceToNat,Int.reduceLT,Int.reduceLE,Int.reduceNeg,Int.reduceAdd,Int.reduceSub,Int.reduceMul,Int.reduceEq,Int.reduceBEq,Int.reduceBNe,f1]); exact rfl):vdc P g args K:=Qt9 c ha hd ((h a).mpr q)
def vl{A Q:Prop}{g:FuncId}{args args0:List DV}{hp:Qa}{K:DV->Qa->Prop}{d:DV}(a:A)(c:VCalls P g args0 [] (Ret d))(q:Q)(ha:A->Qh (args.map (Qpl hp))=some args0:=by intro f1; first | (simp(maxSteps:=2000000) (implicitDefEqProofs:=false) (disch:=first | omega | assumption | (simp only[List.length_cons,List.length_nil,Nat.zero_add,Nat.reduceAdd]; done) | (simp only[IntKind.wrap_i64]; omega) | (simp only[List.length_replicate,List.length_set,List.length_append,List.length_cons,List.length_nil,List.length_take,List.length_drop,List.length_map]<;>omega) | fail) only[go_sem,V.splice,V.mk,mkI,mkB,mkU,↓reduceIte,reduceCtorEq,Nat.reduceAdd,Nat.reduceLT,Nat.reduceLeDiff,Nat.reduceEqDiff,Nat.reduceMul,Nat.reduceSub,Nat.reduceBEq,Nat.reduceDiv,Nat.reducePow,Int.reduceToNat,Int.reduceLT,Int.reduceLE,Int.reduceNeg,Int.reduceAdd,Int.reduceSub,Int.reduceMul,Int.reduceEq,Int.reduceBEq,Int.reduceBNe,f1]<;>fail "no") | fail "no")(hf:d.flat=true:=by rfl)(h:A->K d hp=Q:=by intro f1; (try simp(maxSteps:=2000000) (implicitDefEqProofs:=false) (disch:=first | omega | assumption | (simp only[List.length_cons,List.length_nil,Nat.zero_add,Nat.reduceAdd]; done) | (simp only[IntKind.wrap_i64]; omega) | (simp only[List.length_replicate,List.length_set,List.length_append,List.length_cons,List.length_nil,List.length_take,List.length_drop,List.length_map]<;>omega) | fail) only[go_sem,V.splice,V.mk,mkI,mkB,mkU,↓reduceIte,reduceCtorEq,Nat.reduceAdd,Nat.reduceLT,Nat.reduceLeDiff,Nat.reduceEqDiff,Nat.reduceMul,Nat.reduceSub,Nat.reduceBEq,Nat.reduceDiv,Nat.reducePow,Int.reduceToNat,Int.reduceLT,Int.reduceLE,Int.reduceNeg,Int.reduceAdd,Int.reduceSub,Int.reduceMul,Int.reduceEq,Int.reduceBEq,Int.reduceBNe,f1]); exact rfl):VCalls P g args hp K:=Qud c (ha a) hf ((h a).mpr q)
def gc(keep:List Nat)(h1:S'.nt=S.nt:=by rfl)(h2:S'.base=S.base:=by rfl)(h3:keep.take S.base=JZ S.base:=by rfl)(h4:keep.Nodup:=by decide)(h5:QCW keep S.hp keep S'.hp:=by(repeat' apply And.intro)<;>first | trivial | rfl | exact⟨_,rfl,rfl,rfl,.inl ⟨rfl,rfl⟩⟩ | exact⟨_,rfl,rfl,rfl,.inl ⟨Qs _ _ _,rfl⟩⟩ | exact⟨_,rfl,rfl,rfl,.inl ⟨QfG _ _,rfl⟩⟩ | exact⟨_,rfl,rfl,rfl,.inr ⟨rfl,rfl⟩⟩)(h6:QCP keep S.tm S'.tm:=by(repeat' apply And.intro)<;>first | trivial | rfl | exact⟨_,rfl,rfl,rfl,.inl ⟨rfl,rfl⟩⟩ | exact⟨_,rfl,rfl,rfl,.inl ⟨Qs _ _ _,rfl⟩⟩ | exact⟨_,rfl,rfl,rfl,.inl ⟨QfG _ _,rfl⟩⟩ | exact⟨_,rfl,rfl,rfl,.inr ⟨rfl,rfl⟩⟩):QtT S S':=QzG h1 h2 h3 h4 h5 h6
end Go.V
namespace Go.V
open Go
def Qz{α:Type}(f:α->DV)(Q:α->Prop):DV->Qa->Prop:=fun r h'=>h'=[]/\r.nums (fun _=>false)=true/\∃ a,r=f a/\Q a
def Ql(c:VCalls P g args [] (Qz f Q))(ha:DV.nums.go (fun _=>false) args=true)(h:∀ a,Q a->K (f a) hp):VCalls P g args hp K:=
 Qbl (R:=fun r=>∃ a,r=f a/\Q a) c ha fun r ⟨a,e,q⟩=>e▸h a q
def Quc(c:VCalls P g args0 [] (Qz f Q))(ha:Qh (args.map (Qpl hp))=some args0)(hf:∀ a,(f a).flat=true)(h:∀ a,Q a->K (f a) hp):VCalls P g args hp K:=
 (VCalls.lendA (R:=fun r=>∃ a,r=f a/\Q a) ha (c.mono fun r h' e=>⟨e.1,by obtain⟨_,_,a,rfl,_⟩:=e; exact hf a,e.2.2⟩)).mono fun r h' e=>by obtain⟨rfl,a,rfl,q⟩:=e; exact h a q
def Qiu(sel:List Nat)(args1:List DV)(h0:Qa)(c:VCalls P g args0 [] (Qz f Q))(hh0:h0=sel.map fun k=>hp.getD k default)(hpl:Qgq hp sel)(hnd:sel.Nodup)(ha1:args1=args.map (DV.ren fun j=>sel.idxOf j))(ha:DV.nums.go sel.contains args=true)(hf:Qh (args1.map (Qpl h0))=some args0)(h:∀ a,Q a->K (f a) (QkA hp sel)):VCalls P g args hp K:=by
 subst hh0
 have c1:=VCalls.giveA (R:=fun r=>r.nums (fun _=>false)=true/\∃ a,r=f a/\Q a) hf (c.mono fun r h' e=>⟨e.1,e.2.1,e.2⟩)
 refine(VCalls.frame sel hnd (QcZ hpl) (Qc0 hpl) c1 ha1 ha).mono ?_
 rintro r h2 ⟨r0,h',⟨rfl,hn,a,rfl,q⟩,_,rfl,rfl⟩
 rw[Qfg fun k hk=>(Qdq hpl k hk).1,Qe5 _ _ hn]
 exact h a q
attribute [go_sem] DV.ren DV.ren.go Ks List.getD_cons_succ List.getD_cons_zero
def VCalls.S(c:VCalls P g args hp (Qz f Q))(h:∀ a,Q a->R a):VCalls P g args hp (Qz f R):=
 c.mono fun _ _ ⟨h1,h2,a,e,q⟩=>⟨h1,h2,a,e,h a q⟩
def VCalls.toS(c:VCalls P g args hp (Ret d))(a:α)(e:d=f a)(q:Q a):VCalls P g args hp (Qz f Q):=
 c.mono fun _ _ ⟨h1,h2,h3⟩=>⟨h1,h2,a,h3.trans e,q⟩
def RelD.own_nil (h:RelD w β hp (.own k sz off 0) v):RelD w β hp (.pv (.sl [])) v:=by
 cases h with
 | own _ _ _ _ cap b C T m h1 h2 h3 h4 h5 h6 =>
   exact .pv _ _ (.sl [] (some ⟨b,off,none⟩) cap 0 (fun _ _=>undef) (J2 _) h4 (by simp) (by intro ad e _; cases e; rfl) (by simp) (by simp))
 | own0 _ _ a h1 h2 h3 =>
   exact .pv _ _ (.sl [] a 0 0 (fun _ _=>undef) (J2 _) (J2 _) (by simp) (by intro ad e h; omega) (by simp) (by simp))
def ne1:DV->DV
 | .own _ _ _ 0=>.pv (.sl [])
 | d=>d
def Qr2(h:0<n):ne1 (.own k sz off n)=.own k sz off n:=by cases n; omega; rfl
theorem Qm8:ne1 (.own k sz off 0)=.pv (.sl []):=rfl
theorem QwX:ne1 (.pv p)=.pv p:=rfl
def RelD.ne1(h:RelD w β hp d v):RelD w β hp (V.ne1 d) v:=by
 unfold V.ne1
 split
 ·exact h.own_nil
 ·exact h
def DV.ne:DV->DV
 | .agg cs=>.agg (cs.map ne1)
 | d=>d
def RelD.ne (h:RelD w β hp d v):RelD w β hp d.ne v:=by
 cases h with
 | agg ds vs h1 h2 =>
   refine .agg _ vs (by rw[Jc]; exact h1) fun i d hd=>?_
   rw[Je] at hd
   obtain⟨x,e1,e2⟩:=Qw hd
   subst e2
   exact(h2 i x e1).ne1
 | pv p v h=>exact .pv p v h
 | ptr k off b h hb=>exact .ptr k off b h hb
 | own k sz off len cap b C T m h hb h1 h2 h3 h4=>exact .own k sz off len cap b C T m h hb h1 h2 h3 h4
 | ownc k sz off len cap b o C T m h hb h1 h2 h3 h4 h5=>exact .ownc k sz off len cap b o C T m h hb h1 h2 h3 h4 h5
 | own0 k sz a h1 h2 h3=>exact .own0 k sz a h1 h2 h3
 | ip cs ad val h1 h2 h3=>exact .ip cs ad val h1 h2 h3
 | fn f ds es vs us h1 h2 h3 h4=>exact .fn f ds es vs us h1 h2 h3 h4
 | tup ds vs h1 h2=>exact .tup ds vs h1 h2
 | opt c d v h1 h2=>exact .opt c d v h1 h2
 | any v=>exact .any v
def VCalls.neA(c:VCalls P g (args.map DV.ne) hp R):VCalls P g args hp R:=
 ⟨fun w β vs hh ha=>c.run w β vs hh ⟨by rw [Jc]; exact ha.1,fun i d hd=>by
  rw[Je] at hd
  obtain⟨x,h1,h2⟩:=Qw hd
  subst h2
  exact(ha.2 i x h1).ne⟩⟩
def nf(h:b=true):¬ b=false:=by simp[h]
def nt(h:b=false):¬ b=true:=by simp[h]
def Qa5{α:Type}{n m:Nat}{a b:Option α}(h:n<=m):(if n<=m then a else b)=a:=if_pos h
end Go.V
namespace Go.V
abbrev wd(r:Option Nat):Fence:={ Fence.wide with round:=r }
def Qhg(h:Qm ev o=some (g,args)):∀ c,o≠.defer c:=by
 rintro c rfl
 simp[Qm] at h
def QcX(h:vop P ev hp o=some r):∀ c,o≠.defer c:=by
 rintro c rfl
 simp[vop] at h
def Qh8 {rd:Option Nat} {n:Nat} {hp:Qa} {ev:Operand->DV} {a:Act} {o:Oper} (hev:∀ x,RelD w β hp (ev x) (a.eval x)) {g:FuncId} {args:List DV} (hc:Qm ev o.op = some (g,args)) {R:DV->Qa->Prop} (hh:HeapRel w β hp) (hcalls:VCalls P g args hp R) {next:Act->World->Prop} {Q:Exit->Act->World->Prop} (hn:∀ v r h' β' w',Evo w β hp w' β' h'->HeapRel w' β' h'->RelD w' β' h' r v->R r h'->next (a.put o.dst v) w'):o.wpIn (wd rd) n P a w next Q:=by
 have hnd:=Qhg hc
 unfold Qm at hc
 split at hc
 ·rename_i c hop
  split at hc
  ·rename_i f hcal
   split at hc
   ·rename_i g' first cap hfn
    simp at hc
    obtain⟨rfl,rfl⟩:=hc
    have hf:=hev f
    rw[hfn] at hf
    generalize hv:a.eval f=fv at hf
    cases hf with
    | fn _ _ _ vs us l1 l2 r1 r2 =>
      have hrel:RelL w β hp (first++c.args.toList.map ev++cap) (vs++c.args.map a.eval++us):=Qcu (Qcu ⟨l1,r1⟩ (QfE hev c.args)) ⟨l2,r2⟩
      rcases hcalls.run w β (vs++c.args.map a.eval++us) hh (by simpa using hrel) with⟨fn,h1,h2,h3,h4⟩ | ⟨fn,v,w',h1,h2,h3,v',r,h',β',e,k1,k2,k3,k4⟩
      ·have hrun:(execOp a.eval o).run P w = .ok (.enter g' (vs ++ c.args.map a.eval ++ us)) w:=by
        simp[execOp,hop,resolve,hcal,hv,Deferred.ofValue,invoke,Qda h1 h2 h3]
       refine⟨fun _ _=>trivial,?_⟩
       rw[Oper.semAt_plain _ _ _ hnd,hrun,Oper.uponIn_enter]
       refine⟨fun h=>by simp[Fence.wide] at h,CallsIn.mono (F:=wd rd) (callsIn_wide.2 h4) ?_⟩
       rintro e w' ⟨v,r,h',β',rfl,k1,k2,k3,k4⟩
       exact hn v r h' β' w' k1 k2 k3 k4
      ·have hrun:(execOp a.eval o).run P w = .ok (.value v) w':=by
        rw[Array.append_assoc] at h3
        simp[execOp,hop,resolve,hcal,hv,Deferred.ofValue,invoke,h3]
       cases e
       refine⟨fun _ _=>trivial,?_⟩
       rw[Oper.semAt_plain _ _ _ hnd,hrun]
       exact hn v r h' β' w' k1 k2 k3 k4
   ·simp at hc
  ·simp at hc
 ·simp at hc
def Qc7{rd:Option Nat}{n:Nat}{hp hp':Qa}{o:Oper}{d:DV}(hnd:∀ c,o.op≠.defer c)(h:Qk5 P w β hp (execOp a.eval o) d hp'){next:Act->World->Prop}{Q:Exit->Act->World->Prop}(hn:∀ v w' β',Evo w β hp w' β' hp'->HeapRel w' β' hp'->RelD w' β' hp' d v->next (a.put o.dst v) w'):o.wpIn (wd rd) n P a w next Q:=by
 obtain⟨v,w',β',h1,h2,h3,h4⟩:=h
 refine⟨fun _ _=>trivial,?_⟩
 rw[Oper.semAt_plain _ _ _ hnd]
 rcases h1 with h1 | ⟨h1,rfl⟩
 ·rw[h1]; exact hn v w' β' h2 h3 h4
 ·rw[h1]; exact hn undef w' β' h2 h3 h4
def QbA {rd:Option Nat} {n:Nat} {ops:Array Oper} {Q:Exit->Act->World->Prop} {K:St->Prop} {tail:List Nat} {T:Act->Prop} (hT:∀ o ∈ ops.toList,∀ (a:Act) (v:Value),T a->T (a.put o.dst v)) (hK:∀ β S a w,Sim O β S a w->T a->K S->wpOpsIn (wd rd) n P ops Q tail a w):∀ (rest:List Oper) (pre post:List Oper),ops.toList = pre ++ rest ++ post->∀ (β:Map) (S:St) (a:Act) (w:World),Sim O β S a w->T a->QaL P ops.toList rest K S ->
 wpOpsIn (wd rd) n P ops Q (List.range' pre.length rest.length++tail) a w
 | [],pre,post,_,β,S,a,w,hs,ht,h=>by
   simp only[Jd,List.range'_zero,KT]
   exact hK β S a w hs ht h
 | o :: r,pre,post,hops,β,S,a,w,hs,ht,h=>by
   have hT0:=hT o (by rw[hops]; simp)
   have hidx:ops[pre.length]?=some o:=by
    have:ops.toList[pre.length]?=some o:=by rw[hops]; simp
    simpa using this
   have ih:=fun β S a w=>QbA (P:=P) (rd:=rd) (n:=n) (O:=O) hT hK r (pre++[o]) post (by rw[hops]; simp) β S a w
   simp only[Jg,Kt] at ih
   simp only[Ja,List.range'_succ,KM,wpOpsIn,hidx]
   unfold QaL at h
   obtain⟨hf,h⟩:=h
   split at h
   ·exact h.elim
   ·rename_i hg
    rw[QO (ops:=ops) hs hg,if_neg (by simp)]
    exact⟨fun _ _=>trivial,ih β _ _ _ (hs.skip (.tup [] #[] rfl (by simp)) hf) (hT0 a _ ht) h⟩
   ·rename_i hg
    rw[QO (ops:=ops) hs hg,if_pos rfl]
    have hev:∀ x,RelD w β S.hp (Qo true (S.ev x)) (a.eval x):=fun x=>Qaq (hs.ev x) rfl
    split at h
    ·rename_i g args hc
     refine Qh8 hev hc hs.heap h (fun v r h' β' w' k1 k2 k3 k4=>?_)
     exact ih β' _ _ _ (hs.step k1 k2 (Qb8 k3) hf) (hT0 a _ ht) k4
    ·split at h
     ·rename_i d hp' hv
      refine Qc7 (QcX hv) (QaN hs.heap hev (fun _=>rfl) hv) (fun v w' β' k1 k2 k3=>?_)
      exact ih β' _ _ _ (hs.step k1 k2 (Qb8 k3) hf) (hT0 a _ ht) h
     ·exact h.elim
def QfV{rd:Option Nat}{n:Nat}{ops:Array Oper}{Q:Exit->Act->World->Prop}{K:St->Prop}(hK:∀ β S a w,Sim O β S a w->K S->Q .normal a w)(β:Map)(S:St)(a:Act)(w:World)(hs:Sim O β S a w)(h:QaL P ops.toList ops.toList K S):
 wpOpsIn (wd rd) n P ops Q (JZ ops.size) a w:=by
 have:=QbA (P:=P) (rd:=rd) (n:=n) (O:=O) (ops:=ops) (Q:=Q) (K:=K) (tail:=[]) (T:=fun _=>True) (fun _ _ _ _ _=>trivial) (fun β S a w hs _ hk=>hK β S a w hs hk) ops.toList [] [] (by simp) β S a w hs trivial h
 simpa [Kb] using this
def Qbd:Code->Bool
 | .skip | .exit _ | .ret=>true
 | .region _ _ d=>!d
 | .seq a b | .cond _ a b=>Qbd a&&Qbd b
 | .block _ c=>Qbd c
 | _=>false
def Qam {rd:Option Nat} {n:Nat}:∀ (c:Code) (Q:Exit->St->Prop) (S:St),Qbd c = true->Qy P c Q S->∀ (O:Org) (β:Map) (a:Act) (w:World),Sim O β S a w->c.wpIn (wd rd) n P (Ql1 O Q) a w
 | .skip,Q,S,_,h=>fun O β a w hs=>wpIn_skip ⟨β,S,hs,h⟩
 | .region id ops draw,Q,S,hp,h=>fun O β a w hs=>by
   unfold Qy at h
   have hd:draw=false:=by simpa [Qbd] using hp
   subst hd
   simp only[Ke,if_false] at h
   have:=QfV (P:=P) (rd:=rd) (n:=n) (O:=O) (ops:=ops) (Q:=Ql1 O Q) (K:=Q .normal) (fun β S a w hs hk=>⟨β,S,hs,hk⟩) β S a w hs h
   exact wpIn_region this
 | .seq x y,Q,S,hp,h=>fun O β a w hs=>by
   unfold Qy at h
   simp only[Qbd,Jl] at hp
   have h1:=Qam (rd:=rd) (n:=n) x _ S hp.1 h O β a w hs
   refine wpIn_seq (wpIn_mono h1 fun e a' w' hq=>?_)
   obtain⟨β',S',hs',hq⟩:=hq
   cases e with
   | normal=>exact Qam y Q S' hp.2 hq O β' a' w' hs'
   | _=>exact⟨β',S',hs',hq⟩
 | .cond c x y,Q,S,hp,h=>fun O β a w hs=>by
   unfold Qy at h
   simp only[Qbd,Jl] at hp
   split at h
   ·rename_i t ht
    have hc:=hs.ev c
    rw[ht] at hc
    refine wpIn_cond_split (Qi hc) (fun e=>?_) (fun e=>?_)
    ·exact Qam x Q S hp.1 (h.1 e) O β a w hs
    ·exact Qam y Q S hp.2 (h.2 e) O β a w hs
   ·exact h.elim
 | .block id c,Q,S,hp,h=>fun O β a w hs=>by
   unfold Qy at h
   have h1:=Qam (rd:=rd) (n:=n) c _ S (by simpa [Qbd] using hp) h O β a w hs
   refine wpIn_block (wpIn_mono h1 fun e a' w' hq=>?_)
   obtain⟨β',S',hs',hq⟩:=hq
   cases e with
   | exit id' =>
     simp only[QaT] at hq
     simp only[Exit.inBlock]
     split
     ·rename_i he; rw[if_pos he] at hq; exact⟨β',S',hs',hq⟩
     ·rename_i he; rw[if_neg he] at hq; exact⟨β',S',hs',hq⟩
   | _=>exact⟨β',S',hs',hq⟩
 | .exit id,Q,S,_,h=>fun O β a w hs=>wpIn_exit ⟨β,S,hs,h⟩
 | .ret,Q,S,_,h=>fun O β a w hs=>wpIn_ret ⟨β,S,hs,h⟩
 | .loop _,_,_,hp,_=>by simp[Qbd] at hp
 | .rangeFunc ..,_,_,hp,_=>by simp[Qbd] at hp
 | .scope _,_,_,hp,_=>by simp[Qbd] at hp
 | .label _,_,_,hp,_=>by simp[Qbd] at hp
 | .goto _,_,_,hp,_=>by simp[Qbd] at hp
 | .refuse _,_,_,hp,_=>by simp[Qbd] at hp
end Go.V
namespace Go.V
section
variable {P:Program} {ops:Array Oper} {T:Nat->St} {F:Nat->List Nat×Bool} {rd:Option Nat} {n:Nat}
theorem Qfm (h:Steps P ops T F) (hK:∀ β a w,Sim O β (T ops.size) a w->Q .normal a w):∀ (fuel:Nat) (listed:Array Bool) (a:Act) (w:World) (β:Map) (S:St),
 (JZ ops.size).countP (fun i=>!listed.getD i false)<=fuel->Sim O β S a w->Inv O ops T F listed S->wpAnyIn (wd rd) n P .any ops Q fuel listed a w:=by
 have done : ∀ (listed:Array Bool) (a:Act) (w:World) (β:Map) (S:St),Region.ready .any ops listed = []->Sim O β S a w->Inv O ops T F listed S->Q .normal a w:=by
  intro listed a w β S hready hs hi
  have all:∀ i,i < ops.size->listed.getD i false = true:=by
   intro i
   induction i using KS with
   | _ i ih =>
     intro hlt
     cases hl:listed.getD i false with
     | true=>rfl
     | false =>
       have ho:ops[i]?=some ops[i]:=J7 hlt
       have hmem:i∈Region.ready .any ops listed:=by
        rw[mem_ready]
        refine⟨?_,ops[i],ho,fun e he hb=>ih e.on ((Qa6 h.ok ho).1 e he hb) (Nat.lt_trans ((Qa6 h.ok ho).1 e he hb) hlt)⟩
        have hsz:i<listed.size:=by rw[hi.size]; exact hlt
        simpa [hsz] using hl
       rw[hready] at hmem
       cases hmem
  obtain⟨f1,f2,f3⟩:=Qci h ops.size (Jm _)
  have lt_of:∀ i t,wT ops i t->i<ops.size:=fun i t ⟨o,ho,_⟩=>(Jh.1 ho).1
  refine hK β a w (Qxa (S:=S) (hi.nt.trans f1.symm) (hi.base.trans f2.symm) ?_ hs (fun t=>?_))
  ·apply Kh
   intro k
   obtain⟨m,hm,e,_,h2⟩:=hi.hp k
   rw[e]
   exact(Qeo h ops.size hm (Jm _) (fun i h3 h4 hw=>by have:=h2 i h3 h4 hw; rw[all i h4] at this; cases this)).symm
  ·obtain ⟨m,hm,e,_,h2⟩:=hi.tm t
   rw[e]
   exact(Qd1 h ops.size hm (Jm _) (fun i h3 h4 hw=>by have:=h2 i h3 hw; rw[all i h4] at this; cases this)).symm
 intro fuel
 induction fuel with
 | zero =>
   intro listed a w β S hc hs hi
   have hready:Region.ready .any ops listed=[]:=by
    apply JX.2
    intro j hj
    obtain⟨h0,o,ho,_⟩:=mem_ready.1 hj
    have hlt:j<ops.size:=(Jh.1 ho).1
    have:0<(JZ ops.size).countP (fun i=>!listed.getD i false):=by
     rw[List.countP_pos_iff]
     refine⟨j,Kf.2 hlt,?_⟩
     have hsz:j<listed.size:=by rw[hi.size]; exact hlt
     simp[hsz] at h0 |-
     exact h0
    omega
   exact⟨hready,done listed a w β S hready hs hi⟩
 | succ fuel ih =>
   intro listed a w β S hc hs hi
   refine⟨fun hready=>done listed a w β S hready hs hi,fun j hj=>?_⟩
   obtain⟨h0,oj,hoj,hr⟩:=mem_ready.1 hj
   have hlt:j<ops.size:=(Jh.1 hoj).1
   have hsz:j<listed.size:=by rw[hi.size]; exact hlt
   have hun:listed.getD j false=false:=by simp[hsz] at h0 |-; exact h0
   obtain⟨o',ho',hstep,_⟩:=h.step j hlt
   rw[hoj] at ho'
   simp at ho'
   subst ho'
   have htm:∀ t∈oj.looksAt ops,V.look S.tm t=V.look (T j).tm t:=fun t ht=>(Qsl h hi hoj hun hr (.inl ht)).1
   have heff:=Qd4 hstep
   obtain⟨hf,G,hg,hcase⟩:=hstep
   obtain⟨f1,f2,f3⟩:=Qci h j (by omega)
   have hf':S.fits oj.dst=true:=by
    unfold St.fits at hf |-
    rw[hi.nt,<- f1]; exact hf
   have hg':QF ops.toList S oj=some G:=by rw[Qbb htm]; exact hg
   have hw:=QO (ops:=ops) hs hg'
   have hevS:∀ x∈oj.op.operands.toList,Qo G (S.ev x)=Qo G ((T j).ev x):=fun x hx=>by rw[Qhm htm x hx]
   have hev:G=true->∀ x,RelD w β S.hp (Qo G (S.ev x)) (a.eval x):=fun hG x=>Qaq (hs.ev x) hG
   have hcnt:(JZ ops.size).countP (fun i=>!(listed.setIfInBounds j true).getD i false)<=fuel:=by
    have:(JZ ops.size).countP (fun i=>!(listed.setIfInBounds j true).getD i false)<(JZ ops.size).countP (fun i=>!listed.getD i false):=by
     refine Qez (Kf.2 hlt) (by rw[hun]; rfl) (by simp[hsz]) (fun i hp=>?_)
     by_cases hij:i=j
     ·rw[hij,hun]; rfl
     ·rw[getD_set_ne false (Ne.symm hij)] at hp; exact hp
    omega
   unfold wpOpIn
   simp only[hoj,hw]
   -- what stands QQ this operation
   have next:∀ (β1:Map) (a1:Act) (w1:World) (S1:St),Sim O β1 S1 a1 w1->S1.nt=S.nt->S1.base=S.base->S1.hp.length=S.hp.length->(∀ t,oj.dst≠some t->V.look S1.tm t=V.look S.tm t)->(∀ t,oj.dst=some t->V.look S1.tm t=V.look (T (j+1)).tm t) ->
    (∀ k,¬ wB F j k->S1.hp[k]?=S.hp[k]?)->(∀ k,wB F j k->S1.hp[k]?=(T (j+1)).hp[k]?)->wpAnyIn (wd rd) n P .any ops Q fuel (listed.setIfInBounds j true) a1 w1:=
    fun β1 a1 w1 S1 k0 k1 k2 k3 k4 k5 k6 k7=>ih _ a1 w1 β1 S1 hcnt k0 (Qnj h hi hoj hun hr k1 k2 k3 k4 k5 k6 k7)
   have putlook:∀ (S0:St) (d:DV) t,oj.dst=some t->V.look (S0.put oj.dst d).tm t=d:=fun S0 d t ht=>by rw[ht]; simp[St.put,V.look]
   rcases hcase with⟨g,args,d,hc,hcalls,ha,hd,hT,hF⟩ | ⟨d,hp',hc,hv,hk,hT,hF⟩ | ⟨rfl,hT,hF⟩
   ·have nb:∀ k,¬ wB F j k:=fun k hk=>by have:=hk.1; rw [hF] at this; cases this
    have fin:∀ (β1:Map) (a1:Act) (w1:World),Sim O β1 (S.put oj.dst (QdB oj.guard G d)) a1 w1->wpAnyIn (wd rd) n P .any ops Q fuel (listed.setIfInBounds j true) a1 w1:=fun β1 a1 w1 k0=>
     next β1 a1 w1 _ k0 (St.put_nt ..) (St.put_base ..) (by rw[St.put_hp]) (fun t ht=>St.put_look _ _ _ t ht) (fun t ht=>by rw[hT,putlook _ _ t ht,putlook _ _ t ht]) (fun k _=>by rw[St.put_hp]) (fun k hk=>absurd hk (nb k))
    cases hG:G with
    | true =>
      subst hG
      rw[if_pos rfl]
      have hc':Qm (fun x=>Qo true (S.ev x)) oj.op=some (g,args):=by rw[QgO hevS]; exact hc
      refine(Qh8 (hev rfl) hc' hs.heap ((VCalls.pure ((hcalls rfl).mono fun r h' ⟨e1,e2⟩=>⟨e1,by rw[e2]; exact hd,e2⟩) ha).mono fun r h' hh=>hh) (fun v r h' β' w' k1 k2 k3 k4=>?_))
      obtain⟨rfl,rfl⟩:=k4
      refine fin β' _ _ (hs.step k1 k2 (d:=QdB oj.guard true r) ?_ hf')
      cases oj.guard with
      | none=>exact k3
      | some _=>exact .opt true r v (fun _=>k3) (by simp)
    | false =>
      subst hG
      rw[if_neg (by simp)]
      refine⟨fun _ _=>trivial,?_⟩
      refine fin β _ _ (hs.skip (d:=QdB oj.guard false d) ?_ hf')
      cases hgd:oj.guard with
      | none=>simp[QF,hgd] at hg
      | some _=>exact .opt false d undef (by simp) (fun _=>rfl)
   ·have hfoot:∀ k ∈ (QbW (fun x=>Qo G ((T j).ev x)) oj.op).1,S.hp[k]? = (T j).hp[k]?:=fun k hk'=>by
     rw[<- hF] at hk'
     exact(QkC h hi hoj hun hr hk').1
    have hcong:vop P (fun x=>Qo G (S.ev x)) S.hp oj.op=vop P (fun x=>Qo G ((T j).ev x)) S.hp oj.op:=QfZ hk hevS
    cases hG:G with
    | true =>
      subst hG
      rw[if_pos rfl]
      simp only[cond_true] at hT
      have hdr:∀ {β':Map} {h':Qa} {w':World} {v:Value},RelD w' β' h' d v->RelD w' β' h' (QdB oj.guard true d) v:=fun {β' h' w' v} k3=>by
       cases oj.guard with
       | none=>exact k3
       | some _=>exact .opt true d v (fun _=>k3) (by simp)
      rcases QcL (hp':=S.hp) hk hfoot hv with⟨w0,e1,e2⟩ | ⟨w1,k0,cs,e0,e1,e2⟩
      ·rw [<- hcong] at e2
       subst e1
       have nb:∀ k,¬ wB F j k:=fun k hk=>by have:=hk.1; rw[hF,w0] at this; cases this
       refine(Qc7 (QcX e2) (QaN hs.heap (hev rfl) (fun _=>rfl) e2) (fun v w' β' k1 k2 k3=>?_))
       exact next β' _ _ _ (hs.step k1 k2 (hdr k3) hf') (St.put_nt ..) (St.put_base ..) (by rw[St.put_hp]) (fun t ht=>St.put_look _ _ _ t ht) (fun t ht=>by rw[hT,putlook _ _ t ht,putlook _ _ t ht])
        (fun k _=>by rw[St.put_hp]) (fun k hk=>absurd hk (nb k))
      ·rw [<- hcong] at e2
       subst e1
       refine(Qc7 (QcX e2) (QaN hs.heap (hev rfl) (fun _=>rfl) e2) (fun v w' β' k1 k2 k3=>?_))
       have hwk:∀ k,wB F j k ↔ k=k0:=fun k=>by unfold wB; rw[hF,w1,e0]; simp
       refine next β' _ _ _ (hs.step k1 k2 (hdr k3) hf') (St.put_nt ..) (St.put_base ..) (by rw[St.put_hp]; show(Qu S.hp k0 cs).length=_; unfold Qu; split<;>simp) (fun t ht=>St.put_look _ _ _ t ht) (fun t ht=>by rw[hT,putlook _ _ t ht,putlook _ _ t ht]) (fun k hk=>?_) (fun k hk=>?_)
       ·rw [St.put_hp]
        show(Qu S.hp k0 cs)[k]?=_
        have hne:k0≠k:=fun he=>hk ((hwk k).2 he.symm)
        unfold Qu
        split
        ·rw[Kv hne]
        ·rfl
       ·rw [(hwk k).1 hk,hT,St.put_hp,St.put_hp]
        show(Qu S.hp k0 cs)[k0]?=(Qu (T j).hp k0 cs)[k0]?
        have hsame:S.hp[k0]?=(T j).hp[k0]?:=hfoot k0 (by rw[e0]; simp)
        unfold Qu
        rw[hsame]
        cases hB:(T j).hp[k0]? with
        | none=>simp only; rw[hsame]
        | some B =>
          have l1:k0<(T j).hp.length:=(Jf.1 hB).1
          have l2:k0<S.hp.length:=(Jf.1 (hsame.trans hB)).1
          simp only
          rw[J9 l1,J9 l2]
    | false =>
      subst hG
      rw[if_neg (by simp)]
      refine⟨fun _ _=>trivial,?_⟩
      simp only[cond_false] at hT
      refine next β _ _ (S.put oj.dst (QdB oj.guard false d)) (hs.skip (d:=QdB oj.guard false d) ?_ hf') (St.put_nt ..) (St.put_base ..) (by rw[St.put_hp]) (fun t ht=>St.put_look _ _ _ t ht) (fun t ht=>by rw[hT,putlook _ _ t ht,putlook _ _ t ht]) (fun k _=>by rw[St.put_hp]) (fun k hk=>?_)
      ·cases hgd:oj.guard with
       | none=>simp[QF,hgd] at hg
       | some _=>exact .opt false d undef (by simp) (fun _=>rfl)
      ·rw [hT,St.put_hp,St.put_hp]
       exact(QkC h hi hoj hun hr hk.2).1
   ·have nb:∀ k,¬ wB F j k:=fun k hk=>by have:=hk.1; rw [hF] at this; cases this
    rw[if_neg (by simp)]
    refine⟨fun _ _=>trivial,?_⟩
    exact next β _ _ _ (hs.skip (.tup [] #[] rfl (by simp)) hf') (St.put_nt ..) (St.put_base ..) (by rw[St.put_hp]) (fun t ht=>St.put_look _ _ _ t ht) (fun t ht=>by rw[hT,putlook _ _ t ht,putlook _ _ t ht]) (fun k _=>by rw[St.put_hp]) (fun k hk=>absurd hk (nb k))
end
def QAV {rd:Option Nat} {n:Nat} {id:Nat} {ops:Array Oper} {Q:Exit->St->Prop} (hm:P.follows .mixedOrders = true) (hB:Qh1 ops = true) (h:vdr P ops.toList ops.toList [] (Q .normal) S):∀ (O:Org) (β:Map) (a:Act) (w:World),Sim O β S a w->(Code.region id ops true).wpIn (wd rd) n P (Ql1 O Q) a w:=by
 intro O β a w hs
 obtain⟨T,F,_,h2,h3,h4⟩:=Qf1 ops.toList [] [] S rfl rfl h
 simp only[Jd] at h2
 have hsteps:Steps P ops T F:=⟨fun j hj=>by
  obtain⟨o,e1,e2,e3⟩:=h4 j (J2 _) (by simpa using hj)
  exact⟨o,by simpa using e1,e2,e3⟩,hB⟩
 have hs':Sim O β (T 0) a { w with drawn:=w.drawn+1 }:=by
  rw[h2]
  have e:Evo w β S.hp w.drew β S.hp:=Qbq w β S.hp
  exact⟨hs.defers,hs.size,fun t=>(hs.tm t).mono e,hs.heap.drew,hs.evo.trans e,hs.base⟩
 refine wpIn_region_any hm (Qfm (O:=O) (Q:=Ql1 O Q) hsteps (fun β a w hk=>⟨β,_,hk,by simpa using h3⟩) ops.size (JJ ops.size false) a _ β (T 0) ?_ hs' ?_)
 ·have:=List.countP_le_length (p:=fun i=>!(JJ ops.size false).getD i false) (l:=JZ ops.size)
  simpa using this
 ·have hfalse:∀ i,(JJ ops.size false).getD i false = false:=fun i=>by
   by_cases hi:i<ops.size
   ·simp[hi]
   ·simp[hi]
  refine⟨by simp,rfl,rfl,rfl,fun i o _ hl=>?_,fun t=>⟨0,J2 _,rfl,fun i hi=>absurd hi (Kr _),fun i _ _=>hfalse i⟩,fun k=>⟨0,J2 _,rfl,fun i hi=>absurd hi (Kr _),fun i _ _ _=>hfalse i⟩⟩
  rw[hfalse] at hl
  cases hl
inductive CutD (K:Nat) (ops0:Array Oper):Code->Code->Prop
 | skip:CutD K ops0 .skip .skip
 | exit (id:Nat) (h:(id==K)=false):CutD K ops0 (.exit id) (.exit id)
 | ret:CutD K ops0 .ret .ret
 | region (id:Nat) (ops:Array Oper):CutD K ops0 (.region id ops false) (.region id ops false)
 | draw (id:Nat):CutD K ops0 (.seq (.region id ops0 true) .ret) (.exit K)
 | seq {a a' b b':Code} (h:CutD K ops0 a a') (h':CutD K ops0 b b'):CutD K ops0 (.seq a b) (.seq a' b')
 | cond (c:Operand) {a a' b b':Code} (h:CutD K ops0 a a') (h':CutD K ops0 b b'):CutD K ops0 (.cond c a b) (.cond c a' b')
 | block (id:Nat) (hid:(id==K)=false) {a a':Code} (h:CutD K ops0 a a'):CutD K ops0 (.block id a) (.block id a')
def Qjr {rd:Option Nat} {n K:Nat} {ops0:Array Oper} (hm:P.follows .mixedOrders = true) (hB:Qh1 ops0 = true) {c c':Code} (hc:CutD K ops0 c c'):∀ (Q' Q:Exit->St->Prop),(∀ S,Q' (.exit K) S->vdr P ops0.toList ops0.toList [] (Q .ret) S)->(∀ e S,e ≠ .exit K->Q' e S->Q e S) ->
 ∀ (S:St),Qy P c' Q' S->∀ (O:Org) (β:Map) (a:Act) (w:World),Sim O β S a w->c.wpIn (wd rd) n P (Ql1 O Q) a w:=by
 induction hc with
 | skip=>intro Q' Q hK hQ S h O β a w hs; exact wpIn_skip ⟨β,S,hs,hQ _ _ (by simp) h⟩
 | exit id hid=>intro Q' Q hK hQ S h O β a w hs; exact wpIn_exit ⟨β,S,hs,hQ _ _ (by simpa using hid) h⟩
 | ret=>intro Q' Q hK hQ S h O β a w hs; exact wpIn_ret ⟨β,S,hs,hQ _ _ (by simp) h⟩
 | region id ops =>
   intro Q' Q hK hQ S h O β a w hs
   unfold Qy at h
   simp only[Ke,if_false] at h
   exact wpIn_region (QfV (P:=P) (rd:=rd) (n:=n) (O:=O) (ops:=ops) (Q:=Ql1 O Q) (K:=Q' .normal) (fun β S a w hs hk=>⟨β,S,hs,hQ _ _ (by simp) hk⟩) β S a w hs h)
 | draw id =>
   intro Q' Q hK hQ S h O β a w hs
   refine wpIn_seq (wpIn_mono (QAV (Q:=fun e S=>e=.normal/\Q .ret S) hm hB ?_ O β a w hs) ?_)
   ·have:=hK S h
    have e:(fun S=>Exit.normal=Exit.normal/\Q Exit.ret S)=Q .ret:=by funext S; simp
    rw[e]; exact this
   ·rintro e a' w' ⟨β',S',hs',rfl,q⟩
    exact wpIn_ret ⟨β',S',hs',q⟩
 | seq h h' ih ih' =>
   rename_i x x' y y'
   intro Q' Q hK hQ S hv O β a w hs
   unfold Qy at hv
   refine wpIn_seq (wpIn_mono (ih (Qas Q' (Qy P y' Q')) (Qas Q (Qy P y' Q')) hK (fun e S he hq=>?_) S hv O β a w hs) fun e a' w' hq=>?_)
   ·cases e with
    | normal=>exact hq
    | _=>exact hQ _ _ he hq
   ·obtain ⟨β',S',hs',hq⟩:=hq
    cases e with
    | normal=>exact ih' Q' Q hK hQ S' hq O β' a' w' hs'
    | _=>exact⟨β',S',hs',hq⟩
 | cond c h h' ih ih' =>
   intro Q' Q hK hQ S hv O β a w hs
   unfold Qy at hv
   split at hv
   ·rename_i t ht
    have hc:=hs.ev c
    rw[ht] at hc
    refine wpIn_cond_split (Qi hc) (fun e=>?_) (fun e=>?_)
    ·exact ih Q' Q hK hQ S (hv.1 e) O β a w hs
    ·exact ih' Q' Q hK hQ S (hv.2 e) O β a w hs
   ·exact hv.elim
 | block id hid h ih =>
   intro Q' Q hK hQ S hv O β a w hs
   unfold Qy at hv
   have hne:K≠id:=fun e=>by subst e; simp at hid
   refine wpIn_block (wpIn_mono (ih (QaT id Q') (QaT id Q) (fun S hq=>?_) (fun e S he hq=>?_) S hv O β a w hs) fun e a' w' hq=>?_)
   ·simp only [QaT,if_neg hne] at hq
    exact hK S hq
   ·cases e with
    | exit id' =>
      simp only[QaT] at hq |-
      split
      ·rename_i he'; rw[if_pos he'] at hq; exact hQ _ _ (by simp) hq
      ·rename_i he'; rw[if_neg he'] at hq; exact hQ _ _ he hq
    | _=>exact hQ _ _ (by simp) hq
   ·obtain ⟨β',S',hs',hq⟩:=hq
    cases e with
    | exit id' =>
      simp only[QaT] at hq
      simp only[Exit.inBlock]
      split
      ·rename_i he; rw[if_pos he] at hq; exact⟨β',S',hs',hq⟩
      ·rename_i he; rw[if_neg he] at hq; exact⟨β',S',hs',hq⟩
    | _=>exact⟨β',S',hs',hq⟩
end Go.V
namespace Go.V
open Go.RowKit (Below)
structure Up(w w':World):Prop where
 size:w.heap.size<=w'.heap.size
 same:∀ (b:Nat) (C:Array Value) (T:TypeId) (m:Nat×Nat),w.heap[b]?=some (.cells C T m)->w'.heap[b]?=some (.cells C T m)
def Up.cell(u:Up w w')(h:w.cell? a=some v):w'.cell? a=some v:=by
 obtain⟨o,ho,hc⟩:=cells_of_cell h
 cases o with
 | cells C T m=>exact(World.cell?_of_block (by rw[u.same _ _ _ _ ho,ho])).trans h
 | _=>simp[Obj.isCells] at hc
def RelP.up (h:RelP w im p v) (u:Up w w'):RelP w' im p v:=by
 induction h with
 | lit v h=>exact .lit v h
 | str l=>exact .str l
 | sl xs a cap sz val h1 h2 h3 h4 h5 _ ih =>
   refine .sl xs a cap sz val h1 h2 h3 h4 (fun i j c d hc hd=>?_) (fun i j c d hc hd=>ih i j c d hc hd)
   obtain⟨ad,e,hb,hn,hcell⟩:=h5 i j c d hc hd
   exact⟨ad,e,JR hb u.size,hn,u.cell hcell⟩
 | slc xs a sz val h2 h3 h4 h5 _ ih =>
   refine .slc xs a sz val h2 h3 h4 (fun i j c d hc hd=>?_) (fun i j c d hc hd=>ih i j c d hc hd)
   obtain⟨ad,e,hb,hn,hcell⟩:=h5 i j c d hc hd
   exact⟨ad,e,JR hb u.size,hn,u.cell hcell⟩
def RelD.up (h:RelD w β hp d v) (u:Up w w'):RelD w' β hp d v:=by
 induction h with
 | pv p v h=>exact .pv p v (h.up u)
 | ptr k off b h hb=>exact .ptr k off b h hb
 | own k sz off len cap b C T m h hb h1 h2 h3 h4=>exact .own k sz off len cap b C T m h hb h1 h2 (u.same _ _ _ _ h3) h4
 | ownc k sz off len cap b o C T m h hb h1 h2 h3 h4 h5=>exact .ownc k sz off len cap b o C T m h hb h1 h2 (u.same _ _ _ _ h3) h4 h5
 | own0 k sz a h hb ha=>exact .own0 k sz a h hb ha
 | ip cs ad val h1 h2 h3 =>
   exact .ip cs ad val h1 (fun j d hd=>⟨JR (h2 j d hd).1 u.size,(h2 j d hd).2.1,u.cell (h2 j d hd).2.2⟩) (fun j d hd=>(h3 j d hd).up u)
 | agg ds vs h _ ih=>exact .agg ds vs h ih
 | fn f ds es vs us h h' _ _ ih ih'=>exact .fn f ds es vs us h h' ih ih'
 | tup ds vs h _ ih=>exact .tup ds vs h ih
 | opt c d v _ hf ih=>exact .opt c d v ih hf
 | any v=>exact .any v
def HeapRel.up(h:HeapRel w β hp)(u:Up w w'):HeapRel w' β hp:=by
 refine⟨fun k B b hk hl hb=>?_,h.none,h.inj,h.avoid,fun b hb=>JR (h.bound b hb) u.size⟩
 obtain⟨C,c1,c2,c3⟩:=h.blk k B b hk hl hb
 exact⟨C,u.same _ _ _ _ c1,c2,fun i d hd=>⟨(c3 i d hd).1,(c3 i d hd).2.up u⟩⟩
def Up.grown(hg:w.grownBy w' row)(hr:∀ r,row=some r->∃ o:Obj,w.heap[r]?=some o/\o.isCells=false):Up w w':=by
 refine⟨hg.size,fun b C T m hb=>?_⟩
 rw[grownBy_keeps_cells hg hr hb rfl]; exact hb
def Evo.grown(e:Evo w β hp W β' hp')(hg:W.grownBy W' row)(hr:∀ r,row=some r->w.heap.size<=r/\∃ o:Obj,W.heap[r]?=some o/\o.isCells=false):Evo w β hp W' β' hp':=by
 have u:=Up.grown hg (fun r h=>(hr r h).2)
 refine⟨hg.os.trans e.os,hg.tape.trans e.tape,hg.output.trans e.output,KJ e.size hg.size,e.len,e.beta,fun b hb hl=>?_,fun b C T m hb=>?_,e.im,e.X⟩
 ·rw [hg.block b (JR hb e.size) (fun h=>by have:=(hr b h.symm).1; omega)]
  exact e.same b hb hl
 ·obtain ⟨C',m',h1,h2⟩:=e.shape b C T m hb
  exact⟨C',m',u.same _ _ _ _ h1,h2⟩
def Evo.others(hh:HeapRel w β hp)(e:Evo w β hp W β' hp'):KeepsOthers w W:=by
 refine⟨e.size,fun k o hk ho=>?_⟩
 rw[e.same k (Jh.1 hk).1 ?_]
 ·exact hk
 rintro⟨j,B,h1,h2,h3⟩
 obtain⟨C,c1,_⟩:=hh.blk j B k h1 h2 h3
 rw[hk] at c1
 cases c1
 cases ho
def Qgp{hp0 hp:Qa}(h:hp.take hp0.length=hp0){k:Nat}{B:Blk}(hk:hp0[k]?=some B):hp[k]?=some B:=by
 rw[<- h,List.getElem?_take] at hk
 split at hk
 ·exact hk
 ·cases hk
def HeapRel.pre(hh:HeapRel w β hp)(h:hp.take hp0.length=hp0)(hr:∀ (k:Nat) (B:Blk),hp0[k]?=some B->DV.refs.go hp0.length B.cells=true):HeapRel w β hp0:=by
 have lv:∀ b,live β hp0 b->live β hp b:=fun b ⟨j,B,h1,h2,h3⟩=>⟨j,B,Qgp h h1,h2,h3⟩
 refine⟨fun k B b hk hl hb=>?_,fun k B hk=>hh.none k B (Qgp h hk),fun j k B B' b hj hk=>hh.inj j k B B' b (Qgp h hj) (Qgp h hk),fun k B b hk=>hh.avoid k B b (Qgp h hk),hh.bound⟩
 obtain⟨C,c1,c2,c3⟩:=hh.blk k B b (Qgp h hk) hl hb
 refine⟨C,c1,c2,fun i d hd=>⟨(c3 i d hd).1,(c3 i d hd).2.drop (DV.refs_go (hr k B hk) i d hd) (fun b hb=>hb.imp id (lv b))⟩⟩
def Evo.pre(e:Evo w β hp0 W β' hp)(hl:hp0.length<=hp1.length)(h:hp.take hp1.length=hp1):Evo w β hp0 W β' hp1:=
 ⟨e.os,e.tape,e.output,e.size,hl,e.beta,e.same,e.shape,fun b hb ⟨j,B,h1,h2,h3⟩=>e.im b hb ⟨j,B,Qgp h h1,h2,h3⟩,e.X⟩
def Lies(w:World)(β:Map)(hp:Qa)(W:World):Prop:=∃ β1,HeapRel W β1 hp/\Evo w β hp W β1 hp
def Lies.grown(h:Lies w β hp W)(hg:W.grownBy W' row)(hr:∀ r,row=some r->w.heap.size<=r/\∃ o:Obj,W.heap[r]?=some o/\o.isCells=false):Lies w β hp W':=by
 obtain⟨β1,h1,h2⟩:=h
 exact⟨β1,h1.up (Up.grown hg fun r h=>(hr r h).2),h2.grown hg hr⟩
def QE2(w:World)(β:Map)(hp:Qa)(W W':World):Prop:=Lies w β hp W->Lies w β hp W'
def down(n:Nat):List (Fin n):=(List.finRange n).reverse
def Qey(xs:List (List PV))(i:Nat):DV:=.agg ((xs.getD i []).map .pv)
def QtM (P:Program) (gf:Nat) (cap:DV) (hp:Qa) (xs:List (List PV)):Prop :=
 ∀ (w:World) (β:Map) (vcap:Value),HeapRel w β hp->RelD w β hp cap vcap->∃ V:Nat->Value,(∀ i,i < xs.length->RelD w β hp (Qey xs i) (V i)) /\
   SeqStopsK Fence.wide 9 P gf #[vcap] (fun i:Fin xs.length=>#[.int .i64 (i.1:Int),V i.1]) (QE2 w β hp) (fun l=>l=down xs.length) (fun l=>l <+: down xs.length) xs.length w
def QgD{t:Array Value}(h:p<t.size):(t.setIfInBounds p v).getD q undef=if p=q then v else t.getD q undef:=by
 by_cases e:p=q
 ·subst e; simp[h]
 ·simp[e,Jo]
def Qwf (a:Act) (w:World) (β:Map) (hp:Qa) (n:Nat) (hit:Nat->Bool) (Rr:Nat->Qa->Prop) (e:Exit) (a':Act) (W:World):Prop :=
 ∃ D,w.heap.size<=D/\W.heap[D]? = some (.deferred (some []))/\a' = { a with defers:={ target:=.collected D,args:=#[] } :: a.defers } /\
   ((e = .normal/\(∀ i,i < n->hit i = false)/\Lies w β hp W) \/
    (e=.ret/\∃ i β1 hp',i<n/\hit i=true/\(∀ j,i<j->j<n->hit j=false)/\HeapRel W β1 hp'/\Evo w β hp W β1 hp'/\Rr i hp'))
def Qi6(h:k<(down n).length):((down n)[k]).1+k+1=n:=by
 have hl:(down n).length=n:=by simp[down]
 simp only[down,List.getElem_reverse,List.getElem_finRange,List.length_finRange]
 simp
 omega
def QlO{n:Nat}{q:List (Fin n)}{i:Fin n}(h:q++[i] <+: down n):∀ j:Fin n,i<j->j∈q:=by
 intro j hij
 have hl:(down n).length=n:=by simp[down]
 have hle:=h.length_le
 rw[Jg,Kt,hl] at hle
 have e1:(down n)[q.length]'(by omega)=i:=by
  have:=h.getElem (i:=q.length) (by simp)
  rw[<- this]; simp
 have h1:=Qi6 (n:=n) (k:=q.length) (by omega)
 rw[e1] at h1
 have hk:n-1-j.1<q.length:=by have:=j.2; omega
 have e2:=h.getElem (i:=n-1-j.1) (by rw[Jg]; omega)
 have h2:=Qi6 (n:=n) (k:=n-1-j.1) (by omega)
 have e3:(down n)[n-1-j.1]'(by omega)=j:=Fin.ext (by have:=j.2; omega)
 rw[e3,List.getElem_append_left hk] at e2
 exact e2▸KN hk
def BodyOf(P:Program)(body:Code)(B:(Exit->St->Prop)->St->Prop):Prop:=
 ∀ (rd:Option Nat) (n:Nat) (Q:Exit->St->Prop) (S:St),B Q S->∀ (O:Org) (β:Map) (a:Act) (w:World),Sim O β S a w->body.wpIn (wd rd) n P (Ql1 O Q) a w
def BodyOf.plain(h:Qbd body=true):BodyOf P body (Qy P body):=fun _ _ Q S hv O β a w hs=>Qam body Q S h hv O β a w hs
def QA0(P:Program)(K:Nat)(ops0:Array Oper)(body':Code)(Q:Exit->St->Prop)(S:St):Prop:=
 Qy P body' (fun e S'=>match e with | .exit k=>if k=K then vdr P ops0.toList ops0.toList [] (Q .ret) S' else Q (.exit k) S' | e=>Q e S') S
def BodyOf.cut (hm:P.follows .mixedOrders = true) (hB:Qh1 ops0 = true) (hc:CutD K ops0 body body'):BodyOf P body (QA0 P K ops0 body'):=fun _ _ Q S hv O β a w hs=>
 Qjr hm hB hc _ Q (fun S h=>by simpa using h) (fun e S he h=>by
  cases e with
  | exit k =>
    dsimp only at h
    rw[if_neg (fun e=>he (by rw[e]))] at h
    exact h
  | _=>exact h) S hv O β a w hs
def QgL(P:Program)(S:St)(assign:Code)(B:(Exit->St->Prop)->St->Prop)(hit:Bool)(Rr:Qa->Prop)(S0:St):Prop :=
 Qy P assign (fun e S1=>e=.normal/\S1.hp.take S.hp.length=S.hp /\
  B (fun e S'=>match e with | .normal=>hit=false/\S'.hp.take S.hp.length=S.hp | .ret=>hit=true/\Rr S'.hp | _=>False) { S1 with base:=S1.hp.length }) S0
def QC8 (hs:Sim O β S a w) (hgS:S.ev g = .fn (.func gf) [] [cap]) (hf1:P.funcs[gf]? = some fn) (hf2:(fn.name == "runtime.NumGoroutine") = false) (hf3:fn.body.isNone = false) (hV:QtM P gf cap S.hp xs) (h0:p0 < S.nt) (h1:p1 < S.nt) (hrefs:∀ (k:Nat) (B:Blk),S.hp[k]? = some B->DV.refs.go S.hp.length B.cells = true) (hit:Nat->Bool) (Rr:Nat->Qa->Prop) (hpa:Qbd assign = true) (hB:BodyOf P body B) (hbody:∀ i,i < xs.length->QgL P S assign B (hit i) (Rr i) ⟨S.nt,S.hp.length,(p1,Qey xs i) :: (p0,.int .i64 i) :: S.tm,S.hp⟩):
 (Code.rangeFunc g #[p0,p1] assign body).wp P (Qwf a w β S.hp xs.length hit Rr) a w:=by
 have hgv:=hs.ev g
 rw[hgS] at hgv
 generalize hv:a.eval g=gv at hgv
 cases hgv with
 | fn _ _ _ vs us l1 l2 r1 r2=>
 have hvs:vs=#[]:=JY l1.symm
 subst hvs
 obtain⟨vcap,rfl⟩:∃ vcap,us=#[vcap]:=by
  have:us.toList.length=1:=by simpa using l2.symm
  obtain⟨x,hx⟩:=List.length_eq_one_iff.1 this
  exact⟨x,by rw[<- Array.toArray_toList (xs:=us),hx]⟩
 have hcap:RelD w β S.hp cap vcap:=r2 0 cap rfl
 obtain⟨V,hVr,hseq⟩:=hV w β vcap hs.heap hcap
 have hsz:=hs.size
 rw[<- wpIn_wide (n:=10)]
 refine wpIn_rangeFunc_ownH (F:=Fence.wide) (n:=10) rfl (by decide) (gf:=gf) (lb:=#[vcap]) hv trivial (fun args w=>Qda hf1 hf2 hf3 args w) hseq (fun h k x=>k (h x))
  (fun W l o o' hl ho hc _ hL=>hL.grown (grownBy_putObj' W l o') (fun r e=>by cases e; exact⟨hl,o,ho,hc⟩)) (Below.refl _ _) (fun _=>rfl)
  (fun pre W=>Lies w β S.hp W/\∀ i∈pre,hit i.1=false)
  (fun c pre W=>c=.ret/\∃ (q:List (Fin xs.length)) (i:Fin xs.length) (β1:Map) (hp':Qa),pre=q++[i]/\(∀ j∈q,hit j.1=false)/\hit i.1=true/\HeapRel W β1 hp'/\Evo w β S.hp W β1 hp'/\Rr i.1 hp')
  (fun s A B row h hg hr=>⟨h.1.grown hg hr,h.2⟩)
  (fun c s A B row h hg hr=>by
   obtain⟨hc,q,i,β1,hp',e1,e2,e3,e4,e5,e6⟩:=h
   exact⟨hc,q,i,β1,hp',e1,e2,e3,e4.up (Up.grown hg fun r h=>(hr r h).2),e5.grown hg hr,e6⟩)
  ⟨⟨β,hs.heap,Evo.refl _ _ _⟩,by simp⟩
  (fun i a' W=>∃ (β1:Map) (S1:St),a'.defers = []/\a'.tmps.size = S1.nt/\(∀ t,RelD W β1 S1.hp (look S1.tm t) (a'.tmps.getD t undef))/\HeapRel W β1 S1.hp/\Evo w β S.hp W β1 S1.hp /\
   B (fun e S'=>match e with | .normal=>hit i.1=false/\S'.hp.take S.hp.length=S.hp | .ret=>hit i.1=true/\Rr i.1 S'.hp | _=>False) { S1 with base:=S1.hp.length })
  (fun i a' s A B row h hg hr=>by
   obtain⟨β1,S1,e1,e2,e3,e4,e5,e6⟩:=h
   have u:=Up.grown hg fun r h=>(hr r h).2
   exact⟨β1,S1,e1,e2,fun t=>(e3 t).up u,e4.up u,e5.grown hg hr,e6⟩)
  ?assign ?body ?done ?stop
 case assign=>
  rintro l pre i W K ⟨⟨β1,hh,ev⟩,hpre⟩ hK
  have e1:(Array.zip #[p0,p1] #[Value.int .i64 (i.1:Int),V i.1]).foldl (fun(t:Array Value) (x:Tmp×Value)=>t.setIfInBounds x.1 x.2) a.tmps=(a.tmps.setIfInBounds p0 (.int .i64 (i.1:Int))).setIfInBounds p1 (V i.1):=by simp
  rw[e1]
  have hx:=(hVr i.1 i.2).mono ev
  have hsim:Sim ⟨W,β1,S.hp,[]⟩ β1 ⟨S.nt,S.hp.length,(p1,Qey xs i.1)::(p0,.int .i64 i.1)::S.tm,S.hp⟩ { tmps:=(a.tmps.setIfInBounds p0 (.int .i64 (i.1:Int))).setIfInBounds p1 (V i.1),defers:=[] } W:=by
   refine⟨rfl,by simpa using hsz,fun t=>?_,hh,Evo.refl _ _ _,rfl⟩
   dsimp only
   rw[QgD (by simpa [hsz] using h1),QgD (by simpa [hsz] using h0)]
   simp only[look]
   split
   ·exact hx
   split
   ·exact .pv _ _ (.lit _ rfl)
   ·exact(hs.tm t).mono ev
  refine wpIn_mono (Qam (rd:=some l) (n:=8) assign _ _ hpa (hbody i.1 i.2) _ _ _ _ hsim) ?_
  rintro e a' W' ⟨β2,S1,hs1,rfl,hq,hc⟩
  have hL:Lies w β S.hp W':=⟨β2,hs1.heap.pre hq hrefs,(ev.trans hs1.evo).pre (Jm _) hq⟩
  exact hK a' W' ((Evo.others hh hs1.evo).from _) (fun _=>hL) ⟨hL,hpre⟩ ⟨β2,S1,hs1.defers,hs1.size,hs1.tm,hs1.heap,ev.trans hs1.evo,hc⟩
 case body=>
  rintro l pre i a' W hl _ ⟨hL0,hpre⟩ ⟨β1,S1,e1,e2,e3,hh,ev,hc⟩ hlen
  have hsim:Sim ⟨W,β1,S1.hp,[]⟩ β1 { S1 with base:=S1.hp.length } a' W:=⟨e1,e2,e3,hh,Evo.refl _ _ _,rfl⟩
  refine wpIn_mono (hB (some l) 8 _ _ hc _ _ _ _ hsim) ?_
  rintro e a'' W' ⟨β2,S',hs',hq⟩
  have hoth:KeepsFrom w.heap.size W W':=(Evo.others hh hs'.evo).from _
  have hev:Evo w β S.hp W' β2 S'.hp:=ev.trans hs'.evo
  cases e with
  | normal =>
    have hL:Lies w β S.hp W':=⟨β2,hs'.heap.pre hq.2 hrefs,hev.pre (Jm _) hq.2⟩
    exact⟨hoth,fun _=>hL,hL,fun j hj=>by
     rcases Kq.1 hj with hj | hj
     ·exact hpre j hj
     ·rw[List.mem_singleton.1 hj]; exact hq.1⟩
  | ret=>exact⟨hoth,rfl,pre,i,β2,S'.hp,rfl,hpre,hq.1,hs'.heap,hev,hq.2⟩
  | _=>exact hq.elim
 case done=>
  rintro D ys W hD rfl ⟨hL,hall⟩ hK
  exact⟨D,hD,hK,rfl,.inl ⟨rfl,fun i hi=>hall ⟨i,hi⟩ (by simp[down]),hL⟩⟩
 case stop=>
  rintro D c pre W hD hSp ⟨rfl,q,i,β1,hp',rfl,e2,e3,e4,e5,e6⟩ hK
  refine wpIn_ret ⟨D,hD,hK,rfl,.inr ⟨rfl,i.1,β1,hp',i.2,e3,fun j hij hj=>?_,e4,e5,e6⟩⟩
  exact e2 ⟨j,hj⟩ (QlO hSp ⟨j,hj⟩ hij)
end Go.V
namespace Go.V
structure SimE(O:Org)(β:Map)(S:St)(a:Act)(w:World):Prop where
 size:a.tmps.size=S.nt
 tm:∀ t,RelD w β S.hp (look S.tm t) (a.tmps.getD t undef)
 heap:HeapRel w β S.hp
 evo:Evo O.w O.β O.hp w β S.hp
 mark:a.defers=O.ds\/∃ D,a.defers={ target:=.collected D,args:=#[] }::O.ds/\w.heap[D]?=some (.deferred (some []))/\O.w.heap.size<=D
def St.reb(S:St):St:={ S with base:=S.hp.length }
def SimE.reb(h:SimE O β S a w):Sim ⟨w,β,S.hp,a.defers⟩ β S.reb a w:=⟨rfl,h.size,h.tm,h.heap,Evo.refl _ _ _,rfl⟩
def SimE.on(h:SimE O β S a w)(h':Sim ⟨w,β,S.hp,a.defers⟩ β' S' a' w'):SimE O β' S' a' w':=by
 refine⟨h'.size,h'.tm,h'.heap,h.evo.trans h'.evo,?_⟩
 rw[h'.defers]
 rcases h.mark with e | ⟨D,e,hD,hl⟩
 ·exact .inl e
 ·exact .inr ⟨D,e,(Evo.others h.heap h'.evo).same D _ hD rfl,hl⟩
def QBP(O:Org)(Q:Exit->St->Prop):Exit->Act->World->Prop:=fun e a w=>∃ β S,SimE O β S a w/\Q e S
def VWpE(P:Program)(c:Code)(Q:Exit->St->Prop)(S:St):Prop:=∀ (O:Org) (β:Map) (a:Act) (w:World),SimE O β S a w->c.wp P (QBP O Q) a w
def VWp0(P:Program)(c:Code)(Q:Exit->St->Prop)(S:St):Prop:=∀ (O:Org) (β:Map) (a:Act) (w:World),SimE O β S a w->a.defers=O.ds->c.wp P (QBP O Q) a w
def VWpE.plain(h:Qy P c Q S.reb):VWpE P c Q S:=fun O β a w hs=>
 wp_mono (Qv c Q _ h _ _ _ _ hs.reb) fun _ _ _ ⟨β',S',h',q⟩=>⟨β',S',hs.on h',q⟩
def VWp0.first(h:Qy P x (Qas Q (VWp0 P y Q)) S.reb):VWp0 P (.seq x y) Q S:=fun O β a w hs hd=>by
 refine wp_seq (wp_mono (Qv x _ _ h _ _ _ _ hs.reb) fun e a' w' hq=>?_)
 obtain⟨β',S',h',q⟩:=hq
 cases e with
 | normal=>exact q O β' a' w' (hs.on h') (h'.defers.trans hd)
 | _=>exact⟨β',S',hs.on h',q⟩
def VWp0.then(h:VWp0 P x (Qas Q (VWpE P y Q)) S):VWp0 P (.seq x y) Q S:=fun O β a w hs hd=>by
 refine wp_seq (wp_mono (h O β a w hs hd) fun e a' w' hq=>?_)
 obtain⟨β',S',h',q⟩:=hq
 cases e with
 | normal=>exact q O β' a' w' h'
 | _=>exact⟨β',S',h',q⟩
def VWp0.block {id:Nat} (h:VWp0 P c (QaT id Q) S):VWp0 P (.block id c) Q S:=fun O β a w hs hd=>by
 refine wp_block (wp_mono (h O β a w hs hd) fun e a' w' hq=>?_)
 obtain⟨β',S',hs',hq⟩:=hq
 cases e with
 | exit id' =>
   simp only[QaT] at hq
   simp only[Exit.inBlock]
   split
   ·rename_i he; rw[if_pos he] at hq; exact⟨β',S',hs',hq⟩
   ·rename_i he; rw[if_neg he] at hq; exact⟨β',S',hs',hq⟩
 | _=>exact⟨β',S',hs',hq⟩
def VWp0.down(hgS:S.ev g=.fn (.func gf) [] [cap])(hf1:P.funcs[gf]?=some fn)(hf2:(fn.name == "runtime.NumGoroutine")=false)(hf3:fn.body.isNone=false)(hV:QtM P gf cap S.hp xs)(h0:p0<S.nt)(h1:p1<S.nt)(hrefs:∀ (k:Nat) (B:Blk),S.hp[k]?=some B->DV.refs.go S.hp.length B.cells=true)(hit:Nat->Bool)(Rr:Nat->Qa->Prop)(hpa:Qbd assign=true)(hB:BodyOf P body B)(hbody:∀ i,i<xs.length->QgL P S assign B (hit i) (Rr i) ⟨S.nt,S.hp.length,(p1,Qey xs i)::(p0,.int .i64 i)::S.tm,S.hp⟩)(hdone:(∀ i,i<xs.length->hit i=false)->Q .normal S)(hret:∀ i hp',i<xs.length->hit i=true->(∀ j,i<j->j<xs.length->hit j=false)->Rr i hp'->Q .ret { S with hp:=hp' }):
 VWp0 P (Code.rangeFunc g #[p0,p1] assign body) Q S:=fun O β a w hs hd=>by
 refine wp_mono (QC8 (hs.reb) hgS hf1 hf2 hf3 hV h0 h1 hrefs hit Rr hpa hB hbody) ?_
 rintro e a' W ⟨D,hD,hK,rfl,⟨rfl,hall,β1,hh,ev⟩ | ⟨rfl,i,β1,hp',hi,hhit,hno,hh,ev,hR⟩⟩
 ·exact⟨β1,S,⟨hs.size,fun t=>(hs.tm t).mono ev,hh,hs.evo.trans ev,.inr ⟨D,by rw[hd],hK,KJ hs.evo.size hD⟩⟩,hdone hall⟩
 ·exact⟨β1,{ S with hp:=hp' },⟨hs.size,fun t=>(hs.tm t).mono ev,hh,hs.evo.trans ev,.inr ⟨D,by rw[hd],hK,KJ hs.evo.size hD⟩⟩,hret i hp' hi hhit hno hR⟩
def Qlr (hf:P.funcs[g]? = some fn) (hb:fn.body = some c) (hname:(fn.name == "runtime.NumGoroutine") = false) (hn:args.length<=fn.ntmps) (hc:VWp0 P c (QeJ P fn.results.toList h.length R) ⟨fn.ntmps,h.length,Qhn 0 args,h⟩):VCalls P g args h R:=by
 refine⟨fun w β vs hh ha=>.inl ⟨fn,hf,hname,by rw[hb]; rfl,?_⟩⟩
 refine callsIn_wide.1 (callsIn_of_wp_marks (n:=1) hf hb trivial (wpIn_wide.2 ?_))
 have hsz:vs.size=args.length:=ha.1.symm
 have hs:SimE ⟨w,β,h,[]⟩ β ⟨fn.ntmps,h.length,Qhn 0 args,h⟩ { tmps:=vs ++ JJ (fn.ntmps - vs.size) undef,defers:=[] } w:=by
  refine⟨by simp; omega,fun t=>?_,hh,Evo.refl w β h,.inl rfl⟩
  rw[Qkq,if_pos (J2 _),KZ]
  cases ht:args[t]? with
  | none=>exact .any _
  | some d =>
    have hlt:t<vs.size:=by rw[hsz]; exact(Jf.1 ht).1
    have e:(vs++JJ (fn.ntmps-vs.size) undef).getD t undef=vs.getD t undef:=by
     simp only[Jo]; rw[J6 hlt]
    show RelD w β h d ((vs++JJ (fn.ntmps-vs.size) undef).getD t undef)
    rw[e]
    exact ha.2 t d ht
 refine wp_mono (hc _ β _ w hs rfl) fun e a' w' hq=>?_
 obtain⟨β',S',hs',hq⟩:=hq
 -- the end,in a world that is the same but for blocks without cells
 have fin:∀ W',Up w' W'->Evo w β h W' β' S'.hp->∀ d,QJ P S' fn.results.toList=some d->QtL h.length S'.hp d R->∃ v,(results fn a'.tmps).run P W'=.ok v W'/\∃ v' r h' β'',Ending.returned v=.returned v'/\Evo w β h W' β'' h'/\HeapRel W' β'' h'/\RelD W' β'' h' r v'/\R r h':=by
  intro W' u ev d hr hend
  have hsim:Sim ⟨W',β',S'.hp,a'.defers⟩ β' S'.reb a' W':=⟨rfl,hs'.size,fun t=>(hs'.tm t).up u,hs'.heap.up u,Evo.refl _ _ _,rfl⟩
  obtain⟨v,r1,r2⟩:=QdA (P:=P) (fn:=fn) (d:=d) hsim (by
   have e:Qk6 P S'.reb=Qk6 P S':=by funext r; cases r<;>rfl
   unfold QJ at hr |-
   rw[e]; exact hr)
  obtain⟨d',hp',k1,k2,k3,k4,k5⟩:=Qdh (hs'.heap.up u) ev.len r2 hend
  exact⟨v,r1,v,d',hp',β',rfl,⟨ev.os,ev.tape,ev.output,ev.size,by omega,ev.beta,ev.same,ev.shape,fun b hb hl=>ev.im b hb (k5 b hl),ev.X⟩,k3,k2,k1⟩
 have key:(∃ d,QJ P S' fn.results.toList=some d/\QtL h.length S'.hp d R)->LeavesInM Fence.wide 1 P fn a'.tmps (fun e w'=>∃ v r h' β',e=.returned v/\Evo w β h w' β' h'/\HeapRel w' β' h'/\RelD w' β' h' r v/\R r h') a'.defers .returning w':=by
  rintro⟨d,hr,hend⟩
  rcases hs'.mark with e0 | ⟨D,e0,hD,hl⟩
  ·rw [e0]
   exact fin w' ⟨Jm _,fun _ _ _ _ h=>h⟩ hs'.evo d hr hend
  ·rw [e0]
   refine⟨by simp,.inl ⟨D,_,rfl,run_takeDeferred hD,?_⟩⟩
   have hg:=grownBy_putObj' w' D (.deferred none)
   have hg2:∀ r,some D=some r->w.heap.size<=r/\∃ o:Obj,w'.heap[r]?=some o/\o.isCells=false:=fun r e=>by cases e; exact⟨hl,_,hD,rfl⟩
   exact fin _ (Up.grown hg fun r h=>(hg2 r h).2) (hs'.evo.grown hg hg2) d hr hend
 unfold QeJ at hq
 cases e with
 | normal =>
   dsimp only at hq
   split at hq
   ·rename_i d hd; exact key ⟨d,hd,hq⟩
   ·exact hq.elim
 | ret =>
   dsimp only at hq
   split at hq
   ·rename_i d hd; exact key ⟨d,hd,hq⟩
   ·exact hq.elim
 | _=>exact hq.elim
end Go.V
namespace Go.V
open Go.RowKit (Below)
def VWp0.postK(h:VWp0 P c (QfX P rs n R) S):VWp0 P c (QeJ P rs n R) S:=fun O β a w hs hd=>
 wp_mono (h O β a w hs hd) fun _ _ _ ⟨β',_,hs',hq⟩=>⟨β',_,hs'.on (QmE hs'.reb),hq⟩
def Qjw(hf:P.funcs[g]?=some fn)(hb:fn.body=some c)(hname:(fn.name == "runtime.NumGoroutine")=false)(hn:args.length<=fn.ntmps)(hc:VWp0 P c (QfX P fn.results.toList h.length R) ⟨fn.ntmps,h.length,Qhn 0 args,h⟩):VCalls P g args h R:=Qlr hf hb hname hn hc.postK
def QnE{rd:Option Nat}{n l:Nat}{o:Oper}{c:Call}{f:Operand}{a:Act}{next:Act->World->Prop}{Q:Exit->Act->World->Prop}{R:Ending->World->Prop}(hop:o.op=.call c)(hcal:c.callee=.value f)(hf:a.eval f=.func (.yield l) #[] #[]){args:Array Value}(hargs:c.args.map a.eval=args)(hY:YieldAt (wd rd) (n-1) P l args W R)(hn:∀ e W',R e W'->∃ v,e=.returned v/\next (a.put o.dst v) W'):o.wpIn (wd rd) n P a W next Q:=by
 obtain⟨fn,tmps,assign,body,hy,hR⟩:=hY
 have hrun:(execOp a.eval o).run P W=.ok (.round l fn tmps assign body) W:=by
  subst hargs
  simp[execOp,hop,resolve,hcal,hf,Deferred.ofValue,invoke,hy]
 refine⟨fun _ _=>trivial,?_⟩
 rw[Oper.semAt_plain _ _ _ (by rw[hop]; intro c h; cases h),hrun,Oper.uponIn_round]
 refine⟨fun h=>by simp[Fence.wide] at h,hR.mono ?_⟩
 intro e W' hr
 obtain⟨v,rfl,hv⟩:=hn e W' hr
 exact hv
def PV.fix:PV->Bool
 | .lit v=>v.oneCell'
 | .str _=>true
 | _=>false
def PV.val:PV->Value
 | .lit v=>v
 | .str l=>.string ⟨l.toArray⟩
 | _=>undef
def PV.fix_rel(h:p.fix=true):RelP w im p p.val:=by
 cases p with
 | lit v=>exact .lit v h
 | str l=>exact .str l
 | _=>simp[PV.fix] at h
def PV.fix_eq(h:p.fix=true)(hr:RelP w im p v):v=p.val:=by
 cases hr with
 | lit v _=>rfl
 | str l=>rfl
 | _=>simp[PV.fix] at h
def Qmj(xs:List (List PV))(i:Nat):Value:=.agg ((xs.getD i []).map PV.val).toArray
def Qv9 (h:(xs.getD i []).all PV.fix = true):RelD w β hp (Qey xs i) (Qmj xs i):=by
 unfold Qey Qmj
 generalize xs.getD i []=c at h
 refine .agg _ _ (by simp) fun j d hj=>?_
 rw[Je] at hj
 cases hc:c[j]? with
 | none=>simp[hc] at hj
 | some p =>
   simp[hc] at hj
   subst hj
   have hp:p.fix=true:=J8.1 h p (List.mem_of_getElem? hc)
   rw[show((c.map PV.val).toArray.getD j undef)=p.val by simp[Jo,hc]]
   exact .pv _ _ (PV.fix_rel hp)
def Qz2 (h:(xs.getD i []).all PV.fix = true) (hr:RelD w β hp (Qey xs i) v):v = Qmj xs i:=by
 unfold Qey at hr
 unfold Qmj
 generalize xs.getD i []=c at h hr
 cases hr with
 | agg _ vs hl hv =>
   congr 1
   apply K2
   ·simpa using hl.symm
   ·intro j h1 h2
    have hj:j<c.length:=by simpa using h2
    have hp:(c[j]).fix=true:=J8.1 h _ (KN hj)
    have:=hv j (.pv c[j]) (by simp[hj])
    cases this with
    | pv _ _ hr =>
      have e:=PV.fix_eq hp hr
      simp only[Jo,J7 h1,Ka] at e
      rw[e]; simp
def QhN:RelD w β hp (.fn (.yield l) [] []) (.func (.yield l) #[] #[]):=.fn _ [] [] #[] #[] rfl rfl (by simp) (by simp)
def Qk8:Map:=⟨fun _=>none,fun _=>False⟩
def QzD(w:World):HeapRel w Qk8 []:=⟨fun k B b h=>by simp at h,fun k B h=>by simp at h,fun j k B B' b h=>by simp at h,fun k B b h=>by simp at h,fun b h=>h.elim⟩
def QEa:¬ img Qk8 [] b:=by
 rintro(h | ⟨k,B,h,_⟩)
 ·exact h
 ·simp at h
def Lies.below(hh:HeapRel w β hp)(h:Below w.heap.size w W):Lies w β hp W:=by
 have u:Up w W:=⟨h.size,fun b C T m hb=>by rw[h.block b (Jh.1 hb).1]; exact hb⟩
 exact⟨β,hh.up u,h.os,h.tape,h.output,h.size,Jm _,fun _ _=>rfl,fun b hb _=>h.block b hb,fun b C T m hb=>⟨C,m,u.same _ _ _ _ hb,rfl⟩,fun _ _ h=>h,rfl⟩
def QfQ {hp:Qa} {kb:Nat} {xs:List (List PV)} {vcap:Value} (hkb:hp[kb]? = some ⟨T,true,[.pv (.sl xs)]⟩) (hcap:RelD w β hp (.ptr kb 0) vcap) (hL:Lies w β hp W):
 RelD W Qk8 [] (.ip [.sl xs]) vcap:=by
 obtain⟨β1,hh,ev⟩:=hL
 cases hcap with
 | ptr _ _ b h1 h2 =>
   have hb:β1.f kb=some b:=(ev.beta kb h1).trans h2
   obtain⟨C,c1,c2,c3⟩:=hh.blk kb _ b hkb rfl hb
   have hlt:=(Jh.1 c1).1
   have h0:0<C.v.size:=by have:=c2; simp at this; omega
   obtain⟨_,hr⟩:=c3 0 _ rfl
   refine .ip [.sl xs] ⟨b,0,none⟩ (fun _=>C.v.getD 0 undef) rfl (fun j d hj=>?_) (fun j d hj=>?_)
   ·cases j with
    | succ j=>simp at hj
    | zero =>
      refine⟨hlt,QEa,?_⟩
      exact Q3 c1 h0
   ·cases j with
    | succ j=>simp at hj
    | zero =>
      simp at hj
      subst hj
      cases hr with
      | pv _ _ hr=>exact hr.mono (Jm _) (fun _ _ _=>rfl) (fun b _ hb=>absurd hb QEa)
def itS(Y:DV)(xs:List (List PV))(k:Nat):St:=⟨19,0,[(3,.int .i64 ((k:Int)-1)),(1,.ip [.sl xs]),(0,Y)],[]⟩
structure ItA(l:Nat)(vcap:Value)(a:Act):Prop where
 s:a.tmps.size=19
 y:a.tmps.getD 0 undef=.func (.yield l) #[] #[]
 c:a.tmps.getD 1 undef=vcap
def Qi1 {a:Act} (h:dst ≠ some t) (v:Value):(a.put dst v).tmps.getD t undef = a.tmps.getD t undef:=by
 cases dst with
 | none=>rfl
 | some u =>
   have e:u≠t:=fun e=>h (by rw[e])
   simp[Act.put,Jo,e]
def ItA.put{l:Nat}{vcap:Value}(h:ItA l vcap a){dst:Option Tmp}(h0:dst≠some 0)(h1:dst≠some 1)(v:Value):ItA l vcap (a.put dst v):=
 ⟨by rw[QfH]; exact h.s,by rw[Qi1 h0]; exact h.y,by rw[Qi1 h1]; exact h.c⟩
def QiI (h:RelD w β hp (.fn (.yield l) [] []) v):v = .func (.yield l) #[] #[]:=by
 cases h with
 | fn _ _ _ vs us l1 l2 _ _ =>
   rw[JY l1.symm,JY l2.symm]
def QkP(hk:0<k)(hkn:k<=n):(down n).take (n-k)++[⟨k-1,by omega⟩]=(down n).take (n-(k-1)):=by
 have hl:(down n).length=n:=by simp[down]
 rw[show n-(k-1)=(n-k)+1 by omega,List.take_succ_eq_append_getElem (by omega)]
 congr 2
 have:=Qi6 (n:=n) (k:=n-k) (by omega)
 exact(Fin.ext (by dsimp only; omega)).symm
def Qzj{l k:Nat}{vcap:Value}{xs:List (List PV)}(hd:a.defers=[])(ha:ItA l vcap a)(hi:a.tmps.getD 3 undef=.int .i64 ((k:Int)-1))(hb:RelD W Qk8 [] (.ip [.sl xs]) vcap):
 Sim ⟨W,Qk8,[],[]⟩ Qk8 (itS (.fn (.yield l) [] []) xs k) a W:=by
 refine⟨hd,ha.s,fun t=>?_,QzD W,Evo.refl _ _ _,rfl⟩
 simp only[itS,look]
 split
 ·rename_i e; subst e; rw[hi]; exact .pv _ _ (.lit _ rfl)
 split
 ·rename_i e; subst e; rw[ha.c]; exact hb
 split
 ·rename_i e; subst e; rw[ha.y]; exact QhN
 ·exact .any _
def QBb(y c:Value)(hn:2<=n):((#[y]++#[c])++JJ (n-(#[y]++#[c]).size) undef).size=n/\((#[y]++#[c])++JJ (n-(#[y]++#[c]).size) undef).getD 0 undef=y/\((#[y]++#[c])++JJ (n-(#[y]++#[c]).size) undef).getD 1 undef=c:=by
 have e:(#[y]++#[c]:Array Value).size=2:=rfl
 rw[e]
 refine⟨?_,?_,?_⟩
 ·rw[Array.size_append,e,Array.size_replicate]; omega
 ·rw[Jo,J6 (by rw[e]; omega)]; rfl
 ·rw[Jo,J6 (by rw[e]; omega)]; rfl
def Qgm{rd:Option Nat}{n id:Nat}{ops:Array Oper}{Q:Exit->Act->World->Prop}{K:St->Prop}{T:Act->Prop}(hs:Sim O β S a w)(ht:T a)(h:QaL P ops.toList ops.toList K S)(hT:∀ o∈ops.toList,∀ (a:Act) (v:Value),T a->T (a.put o.dst v))(hK:∀ β S a w,Sim O β S a w->T a->K S->Q .normal a w):(Code.region id ops false).wpIn (wd rd) n P Q a w:=by
 refine wpIn_region ?_
 have:=QbA (P:=P) (rd:=rd) (n:=n) (O:=O) (ops:=ops) (Q:=Q) (tail:=[]) hT (K:=K) (fun β S a w h1 h2 h3=>hK β S a w h1 h2 h3) ops.toList [] [] (by simp) β S a w hs ht h
 simpa [Kb] using this
def Qjg(hi:ops[i]?=some o)(hw:Region.wanted o (yielded ops a.tmps)=true)(h:o.wpIn F n P a w (wpOpsIn F n P ops Q rest) Q):wpOpsIn F n P ops Q (i::rest) a w:=by
 simp only[wpOpsIn,hi,hw,if_true]; exact h
structure ItI(w:World)(β:Map)(hp:Qa)(l:Nat)(vcap:Value)(n:Nat)(J:List (Fin n)->World->Prop)(k:Nat)(a:Act)(W:World):Prop where
 hk:k<=n
 d:a.defers=[]
 it:ItA l vcap a
 i:a.tmps.getD 3 undef=.int .i64 ((k:Int)-1)
 L:Lies w β hp W
 j:J ((down n).take (n-k)) W
def QC5(hf:P.funcs[gf]?=some fn)(hb:fn.body=some (.seq (.region i0 ops0 false) (.block 0 (.loop (.seq (.seq (.region i1 ops1 false) (.cond (.tmp 8) .skip (.exit 0))) (.seq (.block 1 (.seq (.region i3 ops3 false) (.cond (.tmp 18) .ret .skip))) (.region i2 ops2 false)))))))(hres:fn.results=#[])(hnt:fn.ntmps=19)(h3s:ops3.toList=A++[y]++[z])(hyop:y.op=.call c)(hyc:c.callee=.value (.tmp 11))(hya:c.args=#[.tmp 12,.tmp 16])(hyd:y.dst=some 17)(hyg:y.guard=none)(hd:∀ o∈ops0.toList++ops1.toList++ops2.toList++ops3.toList,o.dst≠some 0/\o.dst≠some 1)(hxs:∀ i,i<xs.length->(xs.getD i []).all PV.fix=true)(h0:∀ l:Nat,QaL P ops0.toList ops0.toList (fun S=>S.hp=[]/\look S.tm 3=.int .i64 ((xs.length:Int)-1)) ⟨19,0,[(0,.fn (.yield l) [] []),(1,.ip [.sl xs])],[]⟩)(h1:∀ (l:Nat) (k:Nat),k<=xs.length->QaL P ops1.toList ops1.toList (fun S=>S.hp=[]/\look S.tm 3=.int .i64 ((k:Int)-1)/\look S.tm 8=.bool (decide (0<k))) (itS (.fn (.yield l) [] []) xs k))(h2:∀ (l:Nat) (k:Nat),0<k->k<=xs.length->QaL P ops2.toList ops2.toList (fun S=>S.hp=[]/\look S.tm 3=.int .i64 ((k:Int)-1-1)) (itS (.fn (.yield l) [] []) xs k))(h3:∀ (l:Nat) (k:Nat),0<k->k<=xs.length->QaL P ops3.toList A (fun S=>S.hp=[]/\look S.tm 3=.int .i64 ((k:Int)-1)/\look S.tm 11=.fn (.yield l) [] []/\look S.tm 12=.int .i64 ((k:Int)-1)/\look S.tm 16=Qey xs (k-1)) (itS (.fn (.yield l) [] []) xs k))(h4:∀ (k:Nat) (b:Bool),QaL P ops3.toList [z] (fun S=>S.hp=[]/\look S.tm 3=.int .i64 ((k:Int)-1)/\look S.tm 18=.bool !b) ⟨19,0,[(17,.bool b),(3,.int .i64 ((k:Int)-1))],[]⟩)(hkb:hp[kb]?=some ⟨T,true,[.pv (.sl xs)]⟩):QtM P gf (.ptr kb 0) hp xs:=by
 intro w β vcap hh hcap
 refine⟨Qmj xs,fun i hi=>Qv9 (hxs i hi),?_⟩
 intro l J Jx W0 hbel hJ hJx hY hJ0
 have hL0:Lies w β hp W0:=Lies.below hh hbel
 have hB0:=QfQ hkb hcap hL0
 have hput:∀ (o:Oper),o∈ops0.toList++ops1.toList++ops2.toList++ops3.toList->∀ (a:Act) (v:Value),ItA l vcap a->ItA l vcap (a.put o.dst v):=fun o ho a v h=>h.put (hd o ho).1 (hd o ho).2 v
 have hdl:(down xs.length).length=xs.length:=by simp[down]
 -- from a world to the next by operations that write nothing
 have next:∀ {W W':World} {β':Map} {S:St} {s:List (Fin xs.length)},Evo W Qk8 [] W' β' S.hp->S.hp=[]->W.grownBy W' none:=by
  intro W W' β' S s ev hS
  rw[hS] at ev
  exact⟨ev.os,ev.tape,ev.output,ev.size,fun k hk _=>ev.same k hk (by rintro⟨j,B,h,_⟩; simp at h)⟩
 have back:∀ {k:Nat} {W W':World} {β':Map} {S:St} {a:Act} {i:Int} {s:List (Fin xs.length)},Sim ⟨W,Qk8,[],[]⟩ β' S a W'->look S.tm 3=.int .i64 i->S.hp=[]->Lies w β hp W->J s W->a.tmps.getD 3 undef=.int .i64 i/\Lies w β hp W'/\J s W':=by
  intro k W W' β' S a i s hs h3 hS hL hj
  have h3':=hs.tm 3
  rw[h3] at h3'
  have hg:=next (s:=s) hs.evo hS
  exact⟨Qi h3',hL.grown hg (fun r e=>by cases e),hJ _ _ _ none hj hg (fun r e=>by cases e)⟩
 show CallsIn (wd none) 9 P gf _ W0 _
 refine callsIn_of_wp (F:=wd none) (n:=9) hf hb trivial ?_
 -- the start
 obtain⟨s1,s2,s3⟩:=QBb (.func (.yield l) #[] #[]) vcap (n:=fn.ntmps) (by omega)
 generalize ((#[Value.func (.yield l) #[] #[]]++#[vcap])++JJ (fn.ntmps-(#[Value.func (.yield l) #[] #[]]++#[vcap]).size) undef)=t0 at s1 s2 s3 |-
 rw[hnt] at s1
 have hsim0:Sim ⟨W0,Qk8,[],[]⟩ Qk8 ⟨19,0,[(0,.fn (.yield l) [] []),(1,.ip [.sl xs])],[]⟩ { tmps:=t0,defers:=[] } W0:=by
  refine⟨rfl,s1,fun t=>?_,QzD W0,Evo.refl _ _ _,rfl⟩
  simp only[look]
  split
  ·rename_i e; subst e; rw[s2]; exact QhN
  split
  ·rename_i e; subst e; rw[s3]; exact hB0
  ·exact .any _
 refine wpIn_seq (Qgm (T:=ItA l vcap) hsim0 ⟨s1,s2,s3⟩ (h0 _) (fun o ho=>hput o (by simp[ho])) ?_)
 rintro β1 S1 a1 W1 hs1 ht1 ⟨e1,e2⟩
 have hi1:ItI w β hp l vcap xs.length J xs.length a1 W1:=by
  obtain⟨q1,q2,q3⟩:=back (k:=0) (s:=[]) hs1 e2 e1 hL0 hJ0
  exact⟨Jm _,hs1.defers,ht1,q1,q2,by simpa using q3⟩
 refine wpIn_block ?_
 refine wpIn_loop (fun a W=>∃ k,ItI w β hp l vcap xs.length J k a W) (fun a _=>match a.tmps.getD 3 undef with | .int _ i=>(i+1).toNat | _=>0) ⟨_,hi1⟩ ?_
 rintro a W ⟨k,hk,hde,hit,hi3,hL,hj⟩
 have hB:=QfQ hkb hcap hL
 have hsim:=Qzj hde hit hi3 hB
 refine wpIn_seq (wpIn_seq (Qgm (T:=ItA l vcap) hsim hit (h1 _ k hk) (fun o ho=>hput o (by simp[ho])) ?_))
 rintro β2 S2 a2 W2 hs2 ht2 ⟨e1,e2,e3⟩
 obtain⟨hi32,hL2,hj2⟩:=back (k:=0) hs2 e2 e1 hL hj
 have hde2:=hs2.defers
 have h8:=hs2.tm 8
 rw[e3] at h8
 refine wpIn_cond (Qi h8) ?_
 by_cases hk0:0<k
 rotate_left
 ·-- no element is left
  obtain rfl:k=0:=by omega
  refine wpIn_exit ?_
  simp only[Exit.then,Exit.inBlock,if_true]
  refine⟨hde2,_,results_none hres _ _ _,⟨_,rfl⟩,.inl ⟨_,rfl,?_⟩⟩
  rwa [KZ,J1 (by omega)] at hj2
 rw[decide_eq_true hk0]
 refine wpIn_skip ?_
 have hsim2:=Qzj hde2 ht2 hi32 (QfQ hkb hcap hL2)
 refine wpIn_seq (wpIn_block (wpIn_seq (wpIn_region ?_)))
 have hsz3:ops3.size=A.length+1+1:=by
  have:=congrArg Kz h3s
  simpa using this
 have hy3:ops3[A.length]?=some y:=by
  have:ops3.toList[A.length]?=some y:=by rw[h3s]; simp
  simpa using this
 rw[hsz3,KU,KU,Kb,List.append_assoc]
 refine QbA (P:=P) (rd:=none) (n:=9) (ops:=ops3) (tail:=[A.length]++[A.length+1]) (T:=ItA l vcap) (fun o ho=>hput o (by simp[ho])) ?_ A [] ([y]++[z]) (by rw[h3s]; simp) Qk8 _ a2 W2 hsim2 ht2 (h3 _ k hk0 hk)
 rintro β3 S3 a3 W3 hs3 ht3 ⟨e1,e2,e3,e4,e5⟩
 obtain⟨hi33,hL3,hj3⟩:=back (k:=0) hs3 e2 e1 hL2 hj2
 have h11:=hs3.tm 11
 rw[e3] at h11
 have h12:=hs3.tm 12
 rw[e4] at h12
 have h16:=hs3.tm 16
 rw[e5] at h16
 have hwy:Region.wanted y (yielded ops3 a3.tmps)=true:=by simp[Region.wanted,hyg]
 refine Qjg hy3 hwy ?_
 have hpl:((down xs.length).take (xs.length-k)).length<xs.length:=by rw[Jn]; omega
 refine QnE hyop hyc (QiI h11) (args:=#[.int .i64 (((⟨k-1,by omega⟩:Fin xs.length).1:Nat):Int),Qmj xs (⟨k-1,by omega⟩:Fin xs.length).1]) ?_ (hY _ ⟨k-1,by omega⟩ W3 hj3 hpl) ?_
 ·rw [hya]
  have q1:a3.eval (.tmp 12)=.int .i64 ((k:Int)-1):=Qi h12
  have q2:a3.eval (.tmp 16)=Qmj xs (k-1):=Qz2 (hxs _ (by omega)) h16
  simp only[List.map_toArray,Jw,KH,q1,q2]
  rw[show((k-1:Nat):Int)=(k:Int)-1 by omega]
 -- QQ a round
 have rest:∀ (b:Bool) (W':World) (Q:Exit->Act->World->Prop),(∀ β4 S4 a4 W4,Sim ⟨W',Qk8,[],[]⟩ β4 S4 a4 W4->ItA l vcap a4->S4.hp=[]->look S4.tm 3=.int .i64 ((k:Int)-1)->look S4.tm 18=.bool !b->Q .normal a4 W4) ->
  wpOpsIn (wd none) 9 P ops3 Q [A.length+1] (a3.put y.dst (.bool b)) W':=by
  intro b W' Q hQ
  have hT':=hput y (by rw[h3s]; simp) a3 (.bool b) ht3
  have hs':Sim ⟨W',Qk8,[],[]⟩ Qk8 ⟨19,0,[(17,.bool b),(3,.int .i64 ((k:Int)-1))],[]⟩ (a3.put y.dst (.bool b)) W':=by
   refine⟨by rw[QhP]; exact hs3.defers,hT'.s,fun t=>?_,QzD W',Evo.refl _ _ _,rfl⟩
   simp only[look]
   split
   ·rename_i e; subst e; rw[hyd,Qbn (fun u hu=>by cases hu; rw[ht3.s]; decide),if_pos rfl]; exact .pv _ _ (.lit _ rfl)
   split
   ·rename_i e; subst e; rw[hyd,Qi1 (by decide),hi33]; exact .pv _ _ (.lit _ rfl)
   ·exact .any _
  have:=QbA (P:=P) (rd:=none) (n:=9) (O:=⟨W',Qk8,[],[]⟩) (ops:=ops3) (Q:=Q) (tail:=[]) (T:=ItA l vcap) (fun o ho=>hput o (by simp[ho])) (fun β4 S4 a4 W4 h1 h2 h3=>hQ β4 S4 a4 W4 h1 h2 h3.1 h3.2.1 h3.2.2) [z] (A++[y]) [] (by rw[h3s]; simp) Qk8 _ _ W' hs' hT' (h4 k b)
  simpa using this
 rintro e W' (⟨rfl,hJ',hK'⟩ | ⟨rfl,hJx'⟩)
 ·-- the round goes on
  have hL':Lies w β hp W':=hK' hL3
  refine⟨_,rfl,rest true W' _ ?_⟩
  rintro β4 S4 a4 W4 hs4 ht4 f1 f2 f3
  obtain⟨hi4,hL4,hj4⟩:=back (k:=0) hs4 f2 f1 hL' hJ'
  have h18:=hs4.tm 18
  rw[f3] at h18
  refine wpIn_cond (Qi h18) (wpIn_skip ?_)
  show Code.wpIn (wd none) 9 P (.region i2 ops2 false) _ a4 W4
  refine Qgm (T:=ItA l vcap) (Qzj hs4.defers ht4 hi4 (QfQ hkb hcap hL4)) ht4 (h2 _ k hk0 hk) (fun o ho=>hput o (by simp[ho])) ?_
  rintro β5 S5 a5 W5 hs5 ht5 ⟨g1,g2⟩
  obtain⟨hi5,hL5,hj5⟩:=back (k:=0) hs5 g2 g1 hL4 hj4
  refine⟨⟨k-1,by omega,hs5.defers,ht5,by rw[hi5,show((k-1:Nat):Int)=(k:Int)-1 by omega],hL5,?_⟩,?_⟩
  ·rw[<- QkP hk0 hk]; exact hj5
  ·show (match a5.tmps.getD 3 undef with | .int _ i=>(i + 1).toNat | _=>0) < (match a.tmps.getD 3 undef with | .int _ i=>(i + 1).toNat | _=>0)
   rw[hi5,hi3]
   dsimp only
   rw[show(k:Int)-1-1+1=((k-1:Nat):Int) by omega,show(k:Int)-1+1=(k:Int) by omega,Ki,Ki]
   omega
 ·-- the round has said 'no more'
  refine⟨_,rfl,rest false W' _ ?_⟩
  rintro β4 S4 a4 W4 hs4 ht4 f1 f2 f3
  have h18:=hs4.tm 18
  rw[f3] at h18
  have hg:=next (s:=[]) hs4.evo f1
  refine wpIn_cond (Qi h18) (wpIn_ret ?_)
  refine⟨hs4.defers,_,results_none hres _ _ _,⟨_,rfl⟩,.inr ⟨_,?_,hJx _ _ _ none hJx' hg (fun r e=>by cases e)⟩⟩
  rw[QkP hk0 hk]
  exact List.take_prefix _ _
def QAT(hf:P.funcs[gf]?=some fn)(hb:fn.body=some (.seq (.region i0 ops0 false) (.block 0 (.loop (.seq (.seq (.region i1 ops1 false) (.cond (.tmp 8) .skip (.exit 0))) (.seq (.block 1 (.seq (.region i3 ops3 false) (.cond (.tmp 18) .ret .skip))) (.region i2 ops2 false)))))))(hres:fn.results=#[])(hnt:fn.ntmps=19)(h3s:ops3.toList=[o0,o1,o2,o3,o4,o5,y,z])(hyop:y.op=.call c)(hyc:c.callee=.value (.tmp 11))(hya:c.args=#[.tmp 12,.tmp 16])(hyd:y.dst=some 17)(hyg:y.guard=none)(hd:∀ o∈ops0.toList++ops1.toList++ops2.toList++ops3.toList,o.dst≠some 0/\o.dst≠some 1)(hxs:∀ i,i<xs.length->(xs.getD i []).all PV.fix=true)(h0:∀ l:Nat,QaL P ops0.toList ops0.toList (fun S=>S.hp=[]/\look S.tm 3=.int .i64 ((xs.length:Int)-1)) ⟨19,0,[(0,.fn (.yield l) [] []),(1,.ip [.sl xs])],[]⟩)(h1:∀ (l:Nat) (k:Nat),k<=xs.length->QaL P ops1.toList ops1.toList (fun S=>S.hp=[]/\look S.tm 3=.int .i64 ((k:Int)-1)/\look S.tm 8=.bool (decide (0<k))) (itS (.fn (.yield l) [] []) xs k))(h2:∀ (l:Nat) (k:Nat),0<k->k<=xs.length->QaL P ops2.toList ops2.toList (fun S=>S.hp=[]/\look S.tm 3=.int .i64 ((k:Int)-1-1)) (itS (.fn (.yield l) [] []) xs k))(h3:∀ (l:Nat) (k:Nat),0<k->k<=xs.length->QaL P ops3.toList [o0,o1,o2,o3,o4,o5] (fun S=>S.hp=[]/\look S.tm 3=.int .i64 ((k:Int)-1)/\look S.tm 11=.fn (.yield l) [] []/\look S.tm 12=.int .i64 ((k:Int)-1)/\look S.tm 16=Qey xs (k-1)) (itS (.fn (.yield l) [] []) xs k))(h4:∀ (k:Nat) (b:Bool),QaL P ops3.toList [z] (fun S=>S.hp=[]/\look S.tm 3=.int .i64 ((k:Int)-1)/\look S.tm 18=.bool !b) ⟨19,0,[(17,.bool b),(3,.int .i64 ((k:Int)-1))],[]⟩)(hkb:hp[kb]?=some ⟨T,true,[.pv (.sl xs)]⟩):QtM P gf (.ptr kb 0) hp xs:=
 QC5 (A:=[o0,o1,o2,o3,o4,o5]) hf hb hres hnt h3s hyop hyc hya hyd hyg hd hxs h0 h1 h2 h3 h4 hkb
end Go.V
namespace Go.V
open Go
def QpH(P:Program)(rs:List ResultVar)(R:DV->Qa->Prop)(e:Exit)(S:St):Prop:=∃ S',SimLe S S'/\Qal P rs R e S'
def VWp.postG(h:VWp P c (QpH P rs R) S):VWp P c (Qal P rs R) S:=fun O β a w hs=>
 wp_mono (h O β a w hs) fun _ _ _ ⟨_,_,hs',S',hw,hq⟩=>let ⟨β2,h2⟩:=hw _ _ _ _ hs'; ⟨β2,S',h2,hq⟩
def QA(S':St)(hw:QtT S S')(h:Qal P rs R e S'):QpH P rs R e S:=⟨S',.weak hw,h⟩
def Qju(hf:P.funcs[g]?=some fn)(hb:fn.body=some c)(hname:(fn.name == "runtime.NumGoroutine")=false)(hn:args.length<=fn.ntmps)(hc:VWp P c (Qal P fn.results.toList R) ⟨fn.ntmps,h.length,Qhn 0 args,h⟩):VCalls P g args h R:=by
 refine QeL hf hb hname hn (fun e S hq=>?_) hc
 unfold Qal at hq
 split at hq
 ·split at hq
  ·rename_i d hd; exact⟨.inl rfl,d,hd,.inr hq⟩
  ·exact hq.elim
 ·split at hq
  ·rename_i d hd; exact⟨.inr rfl,d,hd,.inr hq⟩
  ·exact hq.elim
 ·exact hq.elim
def QH(hf:P.funcs[g]?=some fn)(hb:fn.body=some c)(hname:(fn.name == "runtime.NumGoroutine")=false)(hn:args.length<=fn.ntmps)(hc:Qy P c (QpH P fn.results.toList R) ⟨fn.ntmps,h.length,Qhn 0 args,h⟩):VCalls P g args h R:=
 Qju hf hb hname hn (Qv c _ _ hc).postG
def QkW(ha:a<hp.length)(hb:b<hp.length)(hc:c<hp.length)(ab:a≠b)(ac:a≠c)(bc:b≠c)(A B C:Blk)(r:Qa):
 QQ hp [a,b,c] (A::B::C::r)=((hp.set a (Qdx (back [a,b,c] hp.length) A)).set b (Qdx (back [a,b,c] hp.length) B)).set c (Qdx (back [a,b,c] hp.length) C)++r.map (Qdx (back [a,b,c] hp.length)):=by
 unfold QQ
 congr 1
 apply Kh
 intro j
 have q1:(a==b)=false:=by simp[ab]
 have q2:(a==c)=false:=by simp[ac]
 have q3:(b==c)=false:=by simp[bc]
 rw[Je]
 by_cases hj:j<hp.length
 ·rw [KD hj,JU]
  by_cases e1:a=j
  ·subst e1; simp[ha,ab,ac,ab.symm,ac.symm]
  by_cases e2:b=j
  ·subst e2; simp[hb,bc,bc.symm,ab.symm,q1,Ks]
  by_cases e3:c=j
  ·subst e3; simp[hc,q2,q3,Ks]
  rw[if_neg (by simp[Ne.symm e1,Ne.symm e2,Ne.symm e3]),J3,if_neg e3,J3,if_neg e2,J3,if_neg e1,Jk,Jb hj]; rfl
 ·rw [Jv (by simpa using KO hj),Jv (by simpa using KO hj)]
  rfl
end Go.V
namespace Go.V
open Go
end Go.V
namespace Go.V
open Go
def dd(hf:P.funcs[g]?=some fn)(hc:Qy P c (QeJ P fn.results.toList h.length R) ⟨fn.ntmps,h.length,Qhn 0 args,h⟩)(hb:fn.body=some c:=by exact rfl)(hname:(fn.name == "runtime.NumGoroutine")=false:=by kernel_rfl)(hn:args.length<=fn.ntmps:=by exact Nat.le_of_ble_eq_true rfl):VCalls P g args h R:=Qlq hf hb hname hn hc
def dk(hf:P.funcs[g]?=some fn)(hc:Qy P c (QfX P fn.results.toList h.length R) ⟨fn.ntmps,h.length,Qhn 0 args,h⟩)(hb:fn.body=some c:=by exact rfl)(hname:(fn.name == "runtime.NumGoroutine")=false:=by kernel_rfl)(hn:args.length<=fn.ntmps:=by exact Nat.le_of_ble_eq_true rfl):VCalls P g args h R:=Qjv hf hb hname hn hc
end Go.V
