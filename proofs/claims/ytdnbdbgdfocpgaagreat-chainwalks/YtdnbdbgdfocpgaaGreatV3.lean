/-
  Contracts of functions and plain laws. No condition.
-/
import Derived.Test.YtdnbdbgdfocpgaaGreatV2
import Derived.Lib.Builder
import Derived.Lib.Overlaps
import Derived.RangeFuncWrites
import Derived.RangeFuncLeaves
import Derived.RangeFuncCalls
import Derived.OwnWalkIn
import Derived.OrdersIn
import Derived.RangeFuncNested
import Derived.MapKept
set_option linter.unusedSimpArgs false
set_option linter.unusedVariables false
set_option linter.defProp false
set_option maxRecDepth 100000
set_option maxHeartbeats 8000000
set_option autoImplicit true
set_option relaxedAutoImplicit true
open Array renaming getElem?_eq_some_iff->Ja,replicate->Jp,getD_eq_getD_getElem?->Jq,getElem?_eq_getElem->JE,eq_empty_of_size_eq_zero->J0,getElem?_toList->Kp,getElem?_setIfInBounds->Kw,getElem?_append_left->KC,getElem?_modify->KR
open Bool renaming and_eq_true->Jr,and_eq_false_imp->JY,not_eq_eq_eq_not->JZ,or_eq_false_iff->J3,or_eq_true->J4,not_eq_false'->J5,not_eq_true'->J8,not_false->Kb,false_eq_true->Kc,not_true->Ke
open Int renaming reduceToNat->JB,reduceNeg->JM,reduceAdd->JN,reduceSub->JO,reduceMul->JP,reduceBEq->JQ,reduceBNe->JR,reduceLT->JV,reduceLE->JW,reduceEq->JX,not_lt->KD,not_le->KE
open List renaming getElem?_eq_getElem->Jb,getElem?_eq_some_iff->Jc,length_cons->Jd,length_nil->Je,length_map->Jf,length_append->Jg,getElem?_map->Jh,getElem?_append_left->Ji,length_replicate->Jj,getD_eq_getElem?_getD->Jn,getElem?_append_right->Jo,map_cons->Js,length_drop->Jt,length_take->Ju,getElem?_eq_none->Jy,length_set->JA,range->JC,replicate->JF,getElem?_set->JS,mem_range->JT,all_eq_true->J1,range'->J2,findIdx?_cons->J6,range_eq_range'->J7,mem_map->J9,eq_nil_iff_forall_not_mem->Ka,getElem?_set_ne->Kf,replicate_succ->Kg,take_of_length_le->Ki,getElem?_set_self->Kj,ext_getElem?->Kl,drop_zero->Km,countP_le_length->Ko,getElem?_toArray->Kq,cons_append->Kt,range'_append_1->Kv,map_append->Kx,length->Ky,mem_append->Kz,idxOf_lt_length_of_mem->KA,getElem?_cons_succ->KJ,mem_cons->KK,getElem?_replicate->KL,drop_left'->KM,append_nil->KN,idxOf_cons->KO,length_singleton->KP,take_succ_cons->KU,drop_succ_cons->KV,getElem?_range->KX,getElem?_drop->KZ,flatten_cons->K0,map_nil->K2,any_eq_true->K3,mem_toArray->K4,range'_zero->K6,range'_succ->K7,take_left'->K8,nil_append->K9,mem_filter->Ua,drop_drop->Ub,map_set->Ud,map_map->Ug
open Nat renaming lt_of_lt_of_le->Jk,le_refl->Jl,reduceAdd->Jm,reduceLeDiff->Jv,reduceEqDiff->Jw,zero_add->Jz,zero_le->JG,reduceMul->JH,reduceSub->JI,reduceBEq->JJ,reduceDiv->JK,reducePow->JL,reduceLT->JU,le_trans->Kd,not_lt_zero->Kh,lt_trichotomy->Kk,strongRecOn->KB,not_lt->KF,not_le->KG,add_mul->KH,lt_trans->KQ,one_pos->KS,one_mul->KT,add_right_comm->KY,add_comm->K1,le_of_not_lt->K5,zero_mul->Uc,lt_or_ge->Ue,sub_zero->Uf,le_of_lt->Uh,sub_self->Ui,mul_one->Uj
open Option renaming map_some->JD,getD_some->Ks,bind_some->Ku,some->KW
namespace Go.V
structure Enc(α:Type) where
 sz:Nat
 enc:α->List PV
 hsz:0<sz
 hlen:∀ a,(enc a).length=sz
def cells{α:Type}(e:Enc α)(l:List α):List DV:=(l.map fun a=>(e.enc a).map DV.pv).flatten
def fz{α:Type}(e:Enc α)(l:List α):List (List PV):=l.map e.enc
def QW:Enc Int:=⟨1,fun n=>[.lit (.int .i64 n)],KS,fun _=>rfl⟩
def QGX:Enc Bool:=⟨1,fun b=>[.lit (.bool b)],KS,fun _=>rfl⟩
def Qfs:Enc UInt8:=⟨1,fun b=>[.lit (.int .u8 b.toNat)],KS,fun _=>rfl⟩
section
variable {α:Type} (e:Enc α)
theorem QlS(l:List α):(fz e l).length=l.length:=by simp[fz]
theorem QiQ(l:List α)(i:Nat)(h:i<l.length):(fz e l)[i]?=some (e.enc l[i]):=by
 rw[fz,Jh,Jb h]; rfl
theorem QtY(l:List α)(n:Nat):(fz e l).take n=fz e (l.take n):=by simp[fz,List.map_take]
theorem QBD(l:List α)(n:Nat):(fz e l).drop n=fz e (l.drop n):=by simp[fz,List.map_drop]
theorem QBC(l:List α):((fz e l).flatten).map DV.pv=cells e l:=by
 induction l with
 | nil=>rfl
 | cons a r ih=>simp only[fz,cells,Js,K0,Kx] at ih |-; rw[ih]
theorem QtZ(l:List α)(h:0<l.length):(fz e l)[0]?.map Ky=some e.sz:=by
 rw[QiQ e l 0 h]; simp[e.hlen]
theorem QN(a:α)(l:List α):cells e (a::l)=(e.enc a).map DV.pv++cells e l:=rfl
theorem QM(a b:List α):cells e (a++b)=cells e a++cells e b:=by simp[cells]
theorem QV(l:List α):(cells e l).length=l.length*e.sz:=by
 induction l with
 | nil=>simp[cells]
 | cons a r ih=>rw[QN,Jg,ih,Jf,e.hlen,Jd,KH]; omega
theorem Qgj(p:Nat->Bool):∀ (l:List PV),DV.nums.go p (l.map DV.pv)=true
 | []=>rfl
 | _::r=>Qgj p r
theorem Qoj(n:Nat):∀ (l:List PV),DV.refs.go n (l.map DV.pv)=true
 | []=>rfl
 | _::r=>Qoj n r
theorem Qe1(l:List α):cells e l=((l.map e.enc).flatten).map DV.pv:=by
 induction l with
 | nil=>rfl
 | cons a r ih=>rw[QN,Js,K0,Kx,ih]
theorem Qs(p:Nat->Bool)(l:List α):DV.nums.go p (cells e l)=true:=by rw[Qe1]; exact Qgj p _
theorem Qqo(n:Nat)(l:List α):DV.refs.go n (cells e l)=true:=by rw[Qe1]; exact Qoj n _
theorem QsW (n:Nat) (hp:Qa):∀ (l:List PV),Qh ((l.map DV.pv).map (QcL n hp)) = some (l.map DV.pv)
 | []=>rfl
 | a :: r=>by
   have:=QsW n hp r
   simp only[Js,Qh,QcL] at this |-
   rw[this]; rfl
theorem Qok (n:Nat) (hp:Qa) (f:Nat):∀ (l:List PV),Qh ((l.map DV.pv).map (QlU n hp f)) = some l
 | []=>rfl
 | a :: r=>by
   have:=Qok n hp f r
   have h1:QlU n hp f (.pv a)=some a:=by cases f<;>rfl
   simp only[Js,Qh,h1] at this |-
   rw[this]; rfl
theorem QuS(n:Nat)(hp:Qa)(l:List α):Qh ((cells e l).map (QcL n hp))=some (cells e l):=by rw[Qe1]; exact QsW n hp _
theorem Qx7 (l:List α) (i:Nat) (h:i < l.length):((cells e l).drop (i * e.sz)).take e.sz = (e.enc l[i]).map DV.pv:=by
 induction l generalizing i with
 | nil=>simp at h
 | cons a r ih =>
   have ha:((e.enc a).map DV.pv).length=e.sz:=by rw[Jf,e.hlen]
   cases i with
   | zero=>rw[Uc,Km,QN,K8 ha]; rfl
   | succ i =>
     have hi:i<r.length:=by simpa using h
     rw[QN,KH,KT,K1,<- Ub,KM ha,ih i hi]; rfl
theorem Qqn (l:List α) (n:Nat):(cells e l).take (n * e.sz) = cells e (l.take n):=by
 induction l generalizing n with
 | nil=>simp[cells]
 | cons a r ih =>
   have ha:((e.enc a).map DV.pv).length=e.sz:=by rw[Jf,e.hlen]
   cases n with
   | zero=>simp[cells]
   | succ n=>rw[QN,KU,QN,KH,KT,K1,<- ha,List.take_append,Nat.add_sub_cancel_left,ha,ih,Ki (by omega)]
theorem Qqp (l:List α) (n:Nat):(cells e l).drop (n * e.sz) = cells e (l.drop n):=by
 induction l generalizing n with
 | nil=>simp[cells]
 | cons a r ih =>
   have ha:((e.enc a).map DV.pv).length=e.sz:=by rw[Jf,e.hlen]
   cases n with
   | zero=>simp
   | succ n=>rw[QN,KV,KH,KT,K1,<- Ub,KM ha,ih]
theorem Qi0 (n:Nat) (hp:Qa) (f:Nat):∀ (l:List α),Qh ((rows e.sz l.length (cells e l)).map fun r=>Qh (r.map (QlU n hp f))) = some (fz e l)
 | []=>rfl
 | a :: l=>by
   have ha:((e.enc a).map DV.pv).length=e.sz:=by rw[Jf,e.hlen]
   have hr:rows e.sz (a::l).length (cells e (a::l))=(e.enc a).map DV.pv::rows e.sz l.length (cells e l):=by
    rw[Jd,rows,QN,K8 ha,KM ha]
   rw[hr,Js,Qok]
   show(Qh _).map _=_
   rw[Qi0 n hp f l]; rfl
end
def QoS(l:List Int):cells QW l=l.map (DV.int .i64):=by
 induction l with
 | nil=>rfl
 | cons a r ih=>rw[QN,ih]; rfl
def Qy9(l:List UInt8):cells Qfs l=l.map fun b=>.pv (.lit (.int .u8 b.toNat)):=by
 induction l with
 | nil=>rfl
 | cons a r ih=>rw[QN,ih]; rfl
def Qfu(l:List Int):(cells QW l).length=l.length:=by rw[QoS,Jf]
def QdJ(l:List UInt8):(cells Qfs l).length=l.length:=by rw[Qy9,Jf]
def Qfv(l:List Int)(i:Nat)(h:i<l.length):(cells QW l)[i]?=some (.int .i64 (l.getD i 0)):=by
 rw[QoS,Jh,Jn,Jb h]; rfl
def QdK(l:List Int)(i:Nat)(n:Int):(cells QW l).set i (.pv (.lit (.int .i64 n)))=cells QW (l.set i n):=by rw[QoS,QoS,Ud]
def QY(l:List Int)(i:Nat)(h:i<l.length):(fz QW l)[i]?=some [.lit (.int .i64 (l.getD i 0))]:=by
 rw[QiQ QW l i h,Jn,Jb h]; rfl
def Qt0(l:List UInt8)(i:Nat)(h:i<l.length):(fz Qfs l)[i]?=some [.lit (.int .u8 (l.getD i 0).toNat)]:=by
 rw[QiQ Qfs l i h,Jn,Jb h]; rfl
def mkI(n:Nat):mk [.pv (.lit (.int .i64 0))] n=cells QW (JF n 0):=by
 induction n with
 | zero=>rfl
 | succ n ih=>rw[Kg,QN,<- ih]; rfl
def mkB(n:Nat):mk [.pv (.lit (.bool false))] n=cells QGX (JF n false):=by
 induction n with
 | zero=>rfl
 | succ n ih=>rw[Kg,QN,<- ih]; rfl
def mkU(n:Nat):mk [.pv (.lit (.int .u8 0))] n=cells Qfs (JF n 0):=by
 induction n with
 | zero=>rfl
 | succ n ih=>rw[Kg,QN,<- ih]; rfl
def QoH(n:Nat)(hp:Qa)(off sz len:Nat)(x:Option (List DV)):Option PV:=match x with
 | some cs=>if off+len*sz<=cs.length/\0<sz then (Qh ((rows sz len (cs.drop off)).map fun r=>Qh (r.map (QlU n hp 3)))).map .sl else none
 | none=>none
theorem QoG:QlU n hp 4 (.own k sz off len)=if k<n then none else QoH n hp off sz len (Qg hp k):=rfl
def QZ(e:Enc α)(h:l.length=len):QoH n hp 0 e.sz len (some (cells e l))=some (.sl (fz e l)):=by
 subst h
 simp only[QoH]
 rw[if_pos ⟨by rw[QV]; omega,e.hsz⟩,Km,Qi0]; rfl
def QD0(h:l.length=len):QoH n hp 0 1 len (some (cells QW l))=some (.sl (fz QW l)):=QZ QW h
def PV.wk:PV->PV
 | .slc xs=>.sl xs
 | p=>p
def DV.wk:DV->DV
 | .pv p=>.pv p.wk
 | .agg cs=>.agg (go cs)
 | .tup cs=>.tup (go cs)
 | d=>d
where
 go:List DV->List DV
  | []=>[]
  | d::r=>d.wk::go r
def Q0:∀ (ds:List DV),DV.wk.go ds=ds.map DV.wk
 | []=>rfl
 | d::r=>by rw[DV.wk.go,Q0 r]; rfl
def RelP.wk(h:RelP w im p v):RelP w im p.wk v:=by
 cases h with
 | slc xs a sz val h1 h2 h3 h4 h5=>exact .sl xs a xs.length sz val (Jl _) h1 h2 h3 h4 h5
 | lit v h=>exact .lit v h
 | str l=>exact .str l
 | sl xs a cap sz val h1 h2 h3 h4 h5 h6=>exact .sl xs a cap sz val h1 h2 h3 h4 h5 h6
def RelD.wk (h:RelD w β hp d v):RelD w β hp d.wk v:=by
 induction h with
 | pv p v h=>exact .pv _ _ h.wk
 | ptr k off b h hb=>exact .ptr k off b h hb
 | own k sz off len cap b C T m h hb h1 h2 h3 h4=>exact .own k sz off len cap b C T m h hb h1 h2 h3 h4
 | ownc k sz off len cap b o C T m h hb h1 h2 h3 h4 h5=>exact .ownc k sz off len cap b o C T m h hb h1 h2 h3 h4 h5
 | own0 k sz a h hb ha=>exact .own0 k sz a h hb ha
 | ip cs ad val h1 h2 h3=>exact .ip cs ad val h1 h2 h3
 | agg ds vs h _ ih =>
   refine .agg _ vs (by rw[Q0,Jf]; exact h) (fun i d hd=>?_)
   rw[Q0,Jh] at hd
   obtain⟨x,h1,h2⟩:=Qz hd
   subst h2; exact ih i x h1
 | fn f ds es vs us h h' h1 h2 _ _=>exact .fn f ds es vs us h h' h1 h2
 | tup ds vs h _ ih =>
   refine .tup _ vs (by rw[Q0,Jf]; exact h) (fun i d hd=>?_)
   rw[Q0,Jh] at hd
   obtain⟨x,h1,h2⟩:=Qz hd
   subst h2; exact ih i x h1
 | opt c d v h hf _=>exact .opt c d v h hf
 | any v=>exact .any v
mutual
def QqT(p:Nat->Bool):∀ (d:DV),d.nums p=true->d.wk.nums p=true
 | .pv _,_=>rfl
 | .ptr _ _,h=>h
 | .own _ _ _ _,h=>h
 | .ownc _ _ _ _ _,h=>h
 | .ip _,_=>rfl
 | .any,_=>rfl
 | .agg cs,h=>by simp only[DV.nums] at h; simp only[DV.wk,DV.nums]; exact Qe5 p cs h
 | .tup cs,h=>by simp only[DV.nums] at h; simp only[DV.wk,DV.nums]; exact Qe5 p cs h
 | .fn _ _ _,h=>h
 | .opt _ _,h=>h
def Qe5 (p:Nat->Bool):∀ (ds:List DV),DV.nums.go p ds = true->DV.nums.go p (DV.wk.go ds) = true
 | [],_=>rfl
 | d :: r,h=>by
   simp only[DV.nums.go,Jr] at h
   simp only[DV.wk.go,DV.nums.go,Jr]
   exact⟨QqT p d h.1,Qe5 p r h.2⟩
end
abbrev QGn(d:DV):DV->Qa->Prop:=fun r h'=>h'=[]/\r.nums (fun _=>false)=true/\r.wk=d
def VCalls.unwk(c:VCalls P g args h (QGn d)):VCalls P g args h (Ret d):=
 ⟨fun w β vs hh ha=>(c.run w β vs hh ha).mono fun _ _ ⟨v,r,h',β',a,b,c,e,k1,k2,k3⟩=>⟨v,d,h',β',a,b,c,k3▸e.wk,k1,k3▸QqT _ r k2,rfl⟩⟩
def Qyr:∀ (l:List PV),(∀ p∈l,p.wk=p)->DV.wk.go (l.map DV.pv)=l.map DV.pv
 | [],_=>rfl
 | a::r,h=>by simp only[Js,DV.wk.go,DV.wk]; rw[h a (by simp),Qyr r fun p hp=>h p (by simp[hp])]
def Qbd(e:Enc α)(l:List α)(h:∀ a,∀ p∈e.enc a,p.wk=p):DV.wk.go (cells e l)=cells e l:=by
 rw[Qe1]
 refine Qyr _ fun p hp=>?_
 obtain⟨c,hc,hp⟩:=List.mem_flatten.1 hp
 obtain⟨a,_,rfl⟩:=J9.1 hc
 exact h a p hp
def QGu(l:List Int):DV.wk.go (cells QW l)=cells QW l:=Qbd QW l fun a p hp=>by simp[QW] at hp; subst hp; rfl
theorem QwY:Qm2 (.pv p)=[]:=rfl
end Go.V
namespace Go.V
open Go.Lib
def bts(P:Program)(S T:TypeId):Bool:=match P.underlying S,P.underlying T with
 | some (.slice e),some .string=>(match P.underlying e with | some (.int .u8)=>true | _=>false)
 | _,_=>false
def QzJ (hp:Qa) (off len:Nat) (b:Option (List DV)):Option (DV × Qa):=match b with
 | some cs=>if off + len<=cs.length then match QbV ((cs.drop off).take len) with
   | some l=>if l.length=len then some (.pv (.str l),hp) else none
   | none=>none
   else none
 | none=>none
def Qgt (h:bts P S T = true):Qbe P hp S T (.own k 1 off len) = QzJ hp off len (Qg hp k):=by
 unfold bts at h
 split at h
 ·rename_i e hs ht
  split at h
  ·rename_i he
   unfold Qbe QcV QzJ
   simp only[hs,ht,he,Qyb,Qmt]
   cases Qg hp k with
   | none=>rfl
   | some cs =>
     simp only[Uj,true_and]
     by_cases hc:off+len<=cs.length
     ·simp only [if_pos hc]
      cases hb:QbV ((cs.drop off).take len) with
      | none=>rfl
      | some l =>
        simp only
        by_cases hl:l.length=len
        ·simp only[if_pos hl]; rfl
        ·simp only[if_neg hl]; rfl
     ·simp only[if_neg hc]; rfl
  ·cases h
 ·cases h
def Qka(l:List UInt8):QbV (cells Qfs l)=some l:=by
 rw[Qy9]
 induction l with
 | nil=>rfl
 | cons b l ih=>simp only[Js,QbV,ih]; simp
theorem QvL:QzJ hp 0 1 (some [.pv (.lit (.int .u8 n))])=some (.pv (.str [UInt8.ofNat n.toNat]),hp):=rfl
end Go.V
namespace Go.V
def aft(o:Oper)(l:List Nat):Oper:={ o with after:=(o.after.toList++l.map fun i=>(⟨i,.data⟩:Edge)).toArray }
def QyA(D:List (List Nat)):Nat->List Oper->List Oper
 | _,[]=>[]
 | j,o::r=>aft o (D.getD j [])::QyA D (j+1) r
def tcl(ops:Array Oper)(D:List (List Nat)):Array Oper:=(QyA D 0 ops.toList).toArray
def dOk(ops:Array Oper)(D:List (List Nat)):Bool:=
 (JC ops.size).all fun j=>(D.getD j []).all fun i=>bnd ops j i||(JC ops.size).any fun m=>bnd ops j m&&(D.getD m []).contains i
def QnU (D:List (List Nat)):∀ (l:List Oper) (j i:Nat),(QyA D j l)[i]? = l[i]?.map fun o=>aft o (D.getD (j + i) [])
 | [],j,i=>by simp[QyA]
 | o::r,j,0=>by simp[QyA]
 | o :: r,j,i + 1=>by
   simp only[QyA,KJ]
   rw[QnU D r (j+1) i,KY]; rfl
def QgO(ops:Array Oper)(D:List (List Nat))(i:Nat):(tcl ops D)[i]?=ops[i]?.map fun o=>aft o (D.getD i []):=by
 have:=QnU D ops.toList 0 i
 simpa [tcl] using this
def QnT(D:List (List Nat)):∀ (l:List Oper) (j:Nat),(QyA D j l).length=l.length
 | [],_=>rfl
 | o::r,j=>by simp[QyA,QnT D r]
def QvW(ops:Array Oper)(D:List (List Nat)):(tcl ops D).size=ops.size:=by simp[tcl,QnT]
section
variable {P:Program} {ops:Array Oper} {D:List (List Nat)} {Q:Exit->Act->World->Prop}
theorem QrK(i:Nat):((tcl ops D)[i]?).bind (·.dst)=(ops[i]?).bind (·.dst):=by
 rw[QgO]; cases ops[i]?<;>rfl
theorem QmJ(tmps:Array Value):yielded (tcl ops D) tmps=yielded ops tmps:=by
 funext j
 unfold yielded
 rw[QrK]
theorem QvV (h:wpOp P (tcl ops D) Q i K a w):wpOp P ops Q i K a w:=by
 unfold wpOp at h |-
 rw[QgO] at h
 cases ho:ops[i]? with
 | none=>simpa [ho] using h
 | some o =>
   simp only[ho,JD] at h |-
   rw[QmJ] at h
   exact h
def Cl(D:List (List Nat))(L:Array Bool):Prop:=∀ j,j<L.size->L.getD j false=true->∀ i∈D.getD j [],L.getD i false=true
theorem QkR(hd:dOk ops D=true)(hs:L.size=ops.size)(hc:Cl D L)(i:Nat)(h:i∈Region.ready .any ops L):i∈Region.ready .any (tcl ops D) L/\∀ m∈D.getD i [],L.getD m false=true:=by
 obtain⟨h0,o,ho,hdep⟩:=mem_ready.1 h
 have hlt:i<ops.size:=(Ja.1 ho).1
 have key:∀ m∈D.getD i [],L.getD m false=true:=by
  intro m hm
  have h1:=J1.1 hd i (JT.2 hlt)
  have h2:=J1.1 h1 m hm
  rw[J4] at h2
  have dep:∀ x,bnd ops i x=true->L.getD x false=true:=by
   intro x hx
   unfold bnd at hx
   rw[ho] at hx
   simp only[K3,Jr,beq_iff_eq] at hx
   obtain⟨e,he,hb,rfl⟩:=hx
   exact hdep e (by simpa using he) hb
  rcases h2 with h2 | h2
  ·exact dep m h2
  ·obtain ⟨x,hx,h3⟩:=K3.1 h2
   rw[Jr] at h3
   exact hc x (by rw[hs]; exact JT.1 hx) (dep x h3.1) m (by simpa using h3.2)
 refine⟨mem_ready.2 ⟨h0,aft o (D.getD i []),by rw[QgO,ho]; rfl,fun e he hb=>?_⟩,key⟩
 simp only[aft,K4,Kz,J9] at he
 rcases he with he | ⟨m,hm,rfl⟩
 ·exact hdep e (by simpa using he) hb
 ·exact key m hm
theorem Qep (hs:L.size = ops.size) (hd:dOk ops D = true) (hc:Cl D L):(Region.ready .any ops L = [] ↔ Region.ready .any (tcl ops D) L = []):=by
 constructor
 ·intro h
  apply Ka.2
  intro j hj
  obtain⟨h0,o,ho,hdep⟩:=mem_ready.1 hj
  rw[QgO] at ho
  cases hj':ops[j]? with
  | none=>rw[hj'] at ho; cases ho
  | some o' =>
    rw[hj'] at ho
    simp only[JD,KW.injEq] at ho
    subst ho
    have:j∈Region.ready .any ops L:=mem_ready.2 ⟨h0,o',hj',fun e he hb=>hdep e (by simp only[aft,K4,Kz]; exact .inl (by simpa using he)) hb⟩
    rw[h] at this; cases this
 ·intro h
  apply Ka.2
  intro j hj
  have:=(QkR hd hs hc j hj).1
  rw[h] at this; cases this
theorem QkQ (hd:dOk ops D = true):∀ (fuel:Nat) (L:Array Bool) (a:Act) (w:World),L.size = ops.size->Cl D L->wpAny P .any (tcl ops D) Q fuel L a w->wpAny P .any ops Q fuel L a w
 | 0,L,a,w,hs,hc,h=>⟨(Qep hs hd hc).2 h.1,h.2⟩
 | fuel + 1,L,a,w,hs,hc,h=>by
   refine⟨fun hr=>h.1 ((Qep hs hd hc).1 hr),fun i hi=>?_⟩
   obtain⟨h1,h2⟩:=QkR hd hs hc i hi
   refine wpOp_mono (fun a w hw=>QkQ hd fuel _ a w (by simpa using hs) ?_ hw) (QvV (h.2 i h1))
   intro j hj hl m hm
   by_cases hji:j=i
   ·subst hji
    have:=h2 m hm
    by_cases hmj:m=j
    ·subst hmj; exact hl
    ·rw[getD_set_ne false (Ne.symm hmj)]; exact this
   ·rw [getD_set_ne false (Ne.symm hji)] at hl
    have:=hc j (by simpa using hj) hl m hm
    by_cases hmi:m=i
    ·subst hmi
     have hlt:m<L.size:=by
      rcases Ue m L.size with h | h
      ·exact h
      ·simp[h] at this
     simp[hlt]
    ·rw[getD_set_ne false (Ne.symm hmi)]; exact this
inductive SameL:List Oper->List Oper->Prop
 | nil:SameL [] []
 | cons (o:Oper) (l:List Nat) {r r':List Oper}:SameL r r'->SameL (aft o l::r) (o::r')
theorem QbP:∀ (l:List Nat),SameL (pick (tcl ops D).toList l) (pick ops.toList l)
 | []=>.nil
 | i :: r=>by
   have h:(tcl ops D).toList[i]?=(ops[i]?).map fun o=>aft o (D.getD i []):=by
    have:=QgO ops D i
    simpa using this
   have h':ops.toList[i]?=ops[i]?:=by simp
   rw[pick,pick,h,h']
   cases ops[i]? with
   | none=>exact QbP r
   | some o=>exact .cons o _ (QbP r)
theorem Qiv:QC (tcl ops D).toList S (aft o l)=QC ops.toList S o:=by
 have key:∀ j:Nat,(tcl ops D).toList[j]?.bind (·.dst)=ops.toList[j]?.bind (·.dst):=fun j=>by
  have:=QrK (ops:=ops) (D:=D) j
  simpa using this
 unfold QC
 have e:(aft o l).guard=o.guard:=rfl
 rw[e]
 simp only[key]
theorem Qjx:∀ {l' l:List Oper},SameL l' l->∀ {K K':St->Prop} {S:St},(∀ S,K S->K' S)->Qah P ops.toList l K S->Qah P (tcl ops D).toList l' K' S:=by
 intro l' l hs
 induction hs with
 | nil=>intro K K' S hk h; exact hk S h
 | cons o x _ ih =>
   intro K K' S hk h
   unfold Qah at h |-
   rw[Qiv]
   refine⟨h.1,?_⟩
   have h2:=h.2
   have e1:(aft o x).op=o.op:=rfl
   have e2:(aft o x).guard=o.guard:=rfl
   have e3:(aft o x).dst=o.dst:=rfl
   rw[e1,e2,e3]
   clear h
   generalize QC ops.toList S o=gd at h2 |-
   split at h2
   ·exact h2.elim
   ·exact ih hk h2
   ·split at h2
    ·rename_i g args hc
     exact h2.mono fun r h' q=>ih hk q
    ·split at h2
     ·rename_i d hp' hv
      exact ih hk h2
     ·exact h2.elim
theorem QrM:∀ {l' l:List Oper},SameL l' l->Qik ops.toList S S1 l->Qik (tcl ops D).toList S S1 l':=by
 intro l' l hs
 induction hs with
 | nil=>intro h; exact h
 | cons o x _ ih =>
   intro h
   refine⟨?_,ih h.2⟩
   rw[Qiv]
   exact h.1
theorem QrL:∀ {l' l:List Oper},SameL l' l->QcF P S l->QcF P S l':=by
 intro l' l hs
 induction hs with
 | nil=>intro h; exact h
 | cons o x _ ih=>intro h; exact⟨h.1,ih h.2⟩
theorem QrJ:∀ {segs:List Seg} {S:St},vsp P ops.toList segs K S->vsp P (tcl ops D).toList segs K S
 | [],S,h=>h
 | s :: r,S,h=>by
   unfold vsp at h |-
   exact⟨QrL (QbP _) h.1,Qjx (QbP _) (fun S1 ⟨a,b⟩=>⟨QrM (QbP _) a,Qjx (QbP _) (fun S h=>QrJ h) b⟩) h.2⟩
end
def Qa5{id:Nat}(D:List (List Nat))(H0:List Nat)(segs:List Seg)(hm:P.follows .mixedOrders=true)(hd:dOk ops D=true)(hok:QgR (tcl ops D) H0 segs=true)(h:Qah P ops.toList (pick ops.toList H0) (vsp P ops.toList segs (Q .normal)) S):VDraw P id ops Q S:=by
 have h':Qah P (tcl ops D).toList (pick (tcl ops D).toList H0) (vsp P (tcl ops D).toList segs (Q .normal)) S:=Qjx (QbP _) (fun S h=>QrJ h) h
 intro O β a w hs
 have hw:=Qe6 (ops:=tcl ops D) H0 segs hok h' hs
 rw[QvW] at hw
 refine wp_region_any hm (QkQ hd _ _ _ _ (by simp) (fun j _ hl=>?_) hw)
 by_cases hj:j<ops.size<;>simp[hj] at hl
end Go.V
namespace Go.V
def QdI:Enc (List UInt8):=⟨1,fun s=>[.str s],KS,fun _=>rfl⟩
def QuT(l:List (List UInt8)):cells QdI l=l.map fun s=>DV.pv (.str s):=by
 induction l with
 | nil=>rfl
 | cons a r ih=>rw[QN,ih]; rfl
def Qqq(l:List (List UInt8))(i:Nat)(h:i<l.length):(cells QdI l)[i]?=some (.pv (.str (l.getD i []))):=by
 rw[QuT,Jh,Jn,Jb h]; rfl
structure C where
 l:List UInt8
 at_:Nat
 ha:at_<=l.length
 hl:l.length<=1000000
def cc(c:C):List DV:=[.pv (.sl (fz Qfs c.l)),.int .i64 c.at_]
theorem Qca(c:C):DV.nums.go (fun _=>false) (cc c)=true:=rfl
def QnS(x n:Nat)(h:1<=n):∃ y:Nat,(x:Int).tmod n=y/\y<n:=⟨x % n,by rw[Int.ofNat_tmod],Nat.mod_lt _ h⟩
def Qe9{hp:Qa}{l:List UInt8}{n:Nat}(h:l.length=n):QzJ hp 0 n (some (cells Qfs l))=some (.pv (.str l),hp):=by
 subst h
 have e:((cells Qfs l).drop 0).take l.length=cells Qfs l:=by rw[Km,Ki]; rw[QdJ]; exact Jl _
 simp only[QzJ]
 rw[if_pos (by rw[QdJ]; omega),e,Qka]
 simp
end Go.V
namespace Go.V
def QcW(hf:P.funcs[g]?=some fn)(hb:fn.body=some c)(hname:(fn.name == "runtime.NumGoroutine")=false)(hn:args.length<=fn.ntmps)(hc:VWp P c (QcR P fn.results.toList h.length R) ⟨fn.ntmps,h.length,Qgs 0 args,h⟩):VCalls P g args h R:=by
 refine Qfa hf hb hname hn (fun e S hq=>?_) hc
 unfold QcR at hq
 split at hq
 ·split at hq
  ·rename_i d hd; exact⟨.inl rfl,d,hd,.inl fun _=>hq⟩
  ·exact hq.elim
 ·split at hq
  ·rename_i d hd; exact⟨.inr rfl,d,hd,.inl fun _=>hq⟩
  ·exact hq.elim
 ·exact hq.elim
def VWp.weak(h:VWp P c Q S')(hw:QoZ S S'):VWp P c Q S:=fun O _ a w hs=>
 let ⟨_,h'⟩:=hs.weak hw
 h O _ a w h'
def QhH(f:Func):Code:=match f.body with | some c=>c | none=>.skip
end Go.V
namespace Go.V
open Go.Lib
def QBc(hp:Qa)(k j:Nat):(kill hp k)[j]?=if j=k then (hp[j]?).map (fun B=>⟨B.ty,false,[]⟩) else hp[j]?:=by
 unfold kill
 split
 ·rename_i B hk
  have hlt:=(Jc.1 hk).1
  by_cases e:j=k
  ·subst e; rw[if_pos rfl,Kj hlt,hk]; rfl
  ·rw[if_neg e,Kf (by omega)]
 ·rename_i hk
  split
  ·rename_i e; subst e; rw[hk]; rfl
  ·rfl
def Qxn (hp:Qa) (l:List Nat) (j:Nat):(QlK hp l)[j]? = if j ∈ l then (hp[j]?).map (fun B=>⟨B.ty,false,[]⟩) else hp[j]?:=by
 induction l generalizing hp with
 | nil=>simp[QlK]
 | cons k r ih =>
   rw[QlK,ih,QBc]
   by_cases e:j=k
   ·subst e
    simp only[if_true,KK,true_or]
    split
    ·cases hp[j]?<;>rfl
    ·rfl
   ·simp only[KK,e,false_or,if_false]
def Qg6(hp:Qa):List Nat->Prop
 | []=>True
 | k::r=>(k<hp.length/\DV.nums.go (fun _=>false) (hp.getD k default).cells=true)/\Qg6 hp r
def QdB (h:Qg6 hp sel):∀ k ∈ sel,k < hp.length/\DV.nums.go (fun _=>false) (hp.getD k default).cells = true:=by
 induction sel with
 | nil=>simp
 | cons a r ih =>
   intro k hk
   rcases KK.1 hk with rfl | hk
   ·exact h.1
   ·exact ih h.2 k hk
def QaN(hB:DV.nums.go (fun _=>false) B.cells=true):QdN σ B=B:=by
 obtain⟨t,lv,c⟩:=B
 simp only[QdN]
 rw[<- DV.ren_go,Qbk _ _ hB]
def QnI {α β:Type} (l:List α) (f:α->Option β) (g:α->β) (h:∀ a ∈ l,f a = some (g a)):Qh (l.map f) = some (l.map g):=by
 induction l with
 | nil=>rfl
 | cons a r ih =>
   rw[Js,h a (by simp),Js]
   simp only[Qh]
   rw[ih fun b hb=>h b (by simp[hb])]
   rfl
def Qc4(h:Qg6 hp sel):Qtx hp sel=some (sel.map fun k=>hp.getD k default):=by
 refine QnI sel _ _ fun k hk=>?_
 obtain⟨h1,h2⟩:=QdB h k hk
 rw[Jn,Jb h1] at h2 |-
 simp only[JD,Ks] at h2 |-
 rw[QaN h2]
def Qc5(h:Qg6 hp sel):Qox hp sel=true:=by
 unfold Qox
 rw[J1]
 intro k hk
 obtain⟨h1,h2⟩:=QdB h k hk
 rw[Jn,Jb h1] at h2
 rw[Jb h1]
 simp only[Ks] at h2 |-
 rw[QS _ _ h2]; simp
end Go.V
namespace Go.V
def Qvm (hp:Qa):DV->Option DV
 | .ptr k off=>match Qg hp k with
   | some cs=>(Qh ((cs.drop off).map (QlU 0 hp 4))).map .ip
   | none=>none
 | .ip cs=>some (.ip cs)
 | d=>QcL 0 hp d
def QqJ (hp:Qa):DV->Option DV
 | .fn f a b=>match Qh (a.map (Qvm hp)),Qh (b.map (Qvm hp)) with
   | some a',some b'=>some (.fn f a' b')
   | _,_=>none
 | .agg cs=>(Qh (cs.map (Qvm hp))).map .agg
 | d=>Qvm hp d
def QiT (hh:HeapRel w β hp) (hl:Leaves w β hp 0 (img βc [])) (hd:RelD w β hp d v) (h:Qvm hp d = some d'):RelD w βc [] d' v:=by
 unfold Qvm at h
 split at h
 ·rename_i k off
  split at h
  ·rename_i cs hb
   obtain⟨ps,h1,h2⟩:=Qz h
   subst h2
   obtain⟨g1,g2⟩:=QE h1
   cases hd with
   | ptr _ _ b hk hm =>
     obtain⟨B,C,q1,q2,q3,q4,q5,q6⟩:=Qa2 hh hb hm
     have each:∀ (j:Nat) (d:PV),ps[j]?=some d->off+j<C.v.size/\RelP w (img βc []) d (C.v.getD (off+j) undef):=fun j d hj=>by
      have h3:=g2 j d hj
      rw[Jh,KZ] at h3
      obtain⟨x,x1,x2⟩:=Qz h3
      have hlt:=(Jc.1 x1).1
      exact⟨by omega,Qfq hh hl 4 (q6 _ _ x1).2 x2⟩
     refine .ip ps ⟨b,off,none⟩ (fun j=>C.v.getD (off+j) undef) rfl (fun j d hj=>⟨?_,?_,?_⟩) (fun j d hj=>(each j d hj).2)
     ·exact(Ja.1 q4).1
     ·exact hl.off k B b (JG _) q1 q2 hm
     ·exact Q6 q4 (each j d hj).1
  ·cases h
 ·rename_i cs
  simp at h
  subst h
  cases hd with
  | ip _ ad val h1 h2 h3 =>
    exact .ip cs ad val h1 (fun j d hd=>⟨(h2 j d hd).1,fun x=>(h2 j d hd).2.1 (hl.sub _ x),(h2 j d hd).2.2⟩) (fun j d hd=>(h3 j d hd).mono (Jl _) (fun _ _ _=>rfl) (fun b _=>hl.sub b))
 ·exact Qco (β':=βc) (hp':=[]) hh hl (fun k hk=>absurd hk (Kh _)) (JG _) hd h
def Qeb{hp:Qa}(hh:HeapRel w β hp)(hl:Leaves w β hp 0 (img βc [])){ds ds':List DV}{n:Nat}{f:Nat->Value}(hn:ds.length=n)(hd:∀ i d,ds[i]?=some d->RelD w β hp d (f i))(h:Qh (ds.map (Qvm hp))=some ds'):ds'.length=n/\∀ i d,ds'[i]?=some d->RelD w βc [] d (f i):=by
 obtain⟨h1,h2⟩:=QE h
 refine⟨by rw[h1,Jf,hn],fun i d hi=>?_⟩
 have h3:=h2 i d hi
 rw[Jh] at h3
 obtain⟨x,x1,x2⟩:=Qz h3
 exact QiT hh hl (hd i x x1) x2
def QiU (hh:HeapRel w β hp) (hl:Leaves w β hp 0 (img βc [])) (hd:RelD w β hp d v) (h:QqJ hp d = some d'):RelD w βc [] d' v:=by
 unfold QqJ at h
 split at h
 ·rename_i f a b
  split at h
  ·rename_i a' b' ha hb
   simp at h
   subst h
   cases hd with
   | fn _ _ _ vs us h1 h2 h3 h4 =>
     obtain⟨p1,p2⟩:=Qeb hh hl h1 h3 ha
     obtain⟨q1,q2⟩:=Qeb hh hl h2 h4 hb
     exact .fn f a' b' vs us p1 q1 p2 q2
  ·cases h
 ·rename_i cs
  obtain⟨ds,h1,h2⟩:=Qz h
  subst h2
  cases hd with
  | agg _ vs g1 g2 =>
    obtain⟨p1,p2⟩:=Qeb hh hl g1 g2 h1
    exact .agg _ _ p1 p2
 ·exact QiT hh hl hd h
def VCalls.lendA{g:FuncId}{args args0:List DV}{hp:Qa}{R:DV->Prop}(ha:Qh (args.map (QqJ hp))=some args0)(c:VCalls P g args0 [] fun r h'=>h'=[]/\r.flat=true/\R r):
 VCalls P g args hp fun r h'=>h'=hp/\R r:=by
 refine⟨fun w β vs hh hr=>?_⟩
 let βc:Map:=⟨fun _=>none,β.X⟩
 have himc:∀ b,img βc [] b->β.X b:=fun b hb=>by
  rcases hb with hb | ⟨i,D,h1,_⟩
  ·exact hb
  ·simp at h1
 have hlv:Leaves w β hp 0 (img βc []):=⟨fun b hb=>.inl (himc b hb),fun k B b _ h1 h2 h3 hb=>hh.avoid k B b h1 h2 h3 (himc b hb)⟩
 have hhc:HeapRel w βc []:=⟨by simp,by simp,by simp,by simp,hh.bound⟩
 obtain⟨a1,a2⟩:=QE ha
 have hargs:RelL w βc [] args0 vs:=by
  refine⟨by rw[a1]; simpa using hr.1,fun i d hd=>?_⟩
  have h3:=a2 i d hd
  rw[Jh] at h3
  obtain⟨x,x1,x2⟩:=Qz h3
  exact QiU hh hlv (hr.2 i x x1) x2
 refine(c.run w βc vs hhc hargs).mono ?_
 rintro e w' ⟨v,r,h',β',rfl,ev,hh',hrel,rfl,hf,hR⟩
 have heap_same:∀ b,b<w.heap.size->w'.heap[b]?=w.heap[b]?:=fun b hb=>ev.same b hb (by rintro⟨k,B,h1,_⟩; simp at h1)
 have e:Evo w β hp w' β hp:=⟨ev.os,ev.tape,ev.output,ev.size,Jl _,fun _ _=>rfl,fun b hb _=>heap_same b hb,fun b C T m h=>⟨C,m,by rw[heap_same b (Ja.1 h).1]; exact h,rfl⟩,fun _ _ h=>h,rfl⟩
 refine⟨v,r,hp,β,rfl,e,?_,hrel.flat hf,rfl,hR⟩
 refine⟨fun k B b h1 h2 h3=>?_,hh.none,hh.inj,hh.avoid,fun b hb=>Jk (hh.bound b hb) ev.size⟩
 obtain⟨C,g1,g2,g3⟩:=hh.blk k B b h1 h2 h3
 exact⟨C,by rw[heap_same b (Ja.1 g1).1]; exact g1,g2,fun i d hd=>⟨(g3 i d hd).1,(g3 i d hd).2.mono e⟩⟩
def QvO(c:VCalls P g args0 [] (Ret d))(ha:Qh (args.map (QqJ hp))=some args0)(hf:d.flat=true)(h:K d hp):VCalls P g args hp K:=
 (VCalls.lendA (R:=fun r=>r=d) ha (c.mono fun r h' e=>⟨e.1,e.2.2▸hf,e.2.2⟩)).mono fun r h' e=>by obtain⟨rfl,rfl⟩:=e; exact h
def QkU(e:Enc α)(l m:List α)(i:Nat):splice (cells e l) (i*e.sz) (cells e m)=cells e (l.take i++m++l.drop (i+m.length)):=by
 unfold splice
 rw[Qqn,QV,<- KH,Qqp,QM,QM]
def QGi(f:Fn)(a b:Option (List DV)):Option DV:=match a,b with | some a',some b'=>some (.fn f a' b') | _,_=>none
theorem QxI:QqJ hp (.agg cs)=(Qh (cs.map (Qvm hp))).map .agg:=rfl
theorem Qt5:QqJ hp (.own k sz off len)=QcL 0 hp (.own k sz off len):=rfl
theorem Qt4:Qvm hp (.own k sz off len)=QcL 0 hp (.own k sz off len):=rfl
theorem QBJ:QqJ hp (.pv p)=some (.pv p):=rfl
theorem QBI:Qvm hp (.pv p)=some (.pv p):=rfl
end Go.V
namespace Go.V
def Qpq (h:Sim O β S a w) (t:Nat) (T:TypeId) (sz:Nat) (ht:look S.tm t = .pv (.slc [])):
 ∃ β',Sim O β' ⟨S.nt,S.base,(t,.own S.hp.length sz 0 0)::S.tm,S.hp++[⟨T,true,[]⟩]⟩ a w:=by
 have e:Evo w β S.hp w (ext β S.hp.length none) (S.hp++[(⟨T,true,[]⟩:Blk)]):=by
  refine⟨rfl,rfl,rfl,Jl _,by simp,fun j hj=>Qa0 hj,fun _ _ _=>rfl,fun _ C _ m h=>⟨C,m,h,rfl⟩,fun b _ hb=>?_,rfl⟩
  obtain⟨j,D,g1,g2,g3⟩:=hb
  rcases Kk j S.hp.length with hlt | heq | hgt
  ·rw[Ji hlt] at g1; rw[Qa0 hlt] at g3; exact⟨j,D,g1,g2,g3⟩
  ·subst heq; simp[ext] at g3
  ·rw[Jo (by omega),Jy (by simp; omega)] at g1; simp at g1
 refine⟨_,h.defers,h.size,fun u=>?_,Qc0 h.heap rfl e (by simp) (fun _=>rfl) (fun _ _=>rfl),h.evo.trans e,h.base⟩
 simp only[look]
 split
 ·rename_i hu
  have:=h.tm t
  rw[ht] at this
  rw[<- hu]
  generalize a.tmps.getD t undef=v at this
  cases this with
  | pv _ _ hp0=>cases hp0 with
    | slc _ ad sz2 val h1 h2 h3 h4 h5=>exact .own0 _ _ ad (by simp) (by simp[ext]) trivial
 ·exact(h.tm u).mono e
def VWp.nilOwn(t:Nat)(T:TypeId)(sz:Nat)(ht:look S.tm t=.pv (.slc []))(h:VWp P c Q ⟨S.nt,S.base,(t,.own S.hp.length sz 0 0)::S.tm,S.hp++[⟨T,true,[]⟩]⟩):VWp P c Q S:=fun O β a w hs=>
 let ⟨_,h'⟩:=Qpq hs t T sz ht
 h O _ a w h'
def VLoop.nilOwn(t:Nat)(T:TypeId)(sz:Nat)(ht:look S.tm t=.pv (.slc []))(h:VLoop P c Q ⟨S.nt,S.base,(t,.own S.hp.length sz 0 0)::S.tm,S.hp++[⟨T,true,[]⟩]⟩):VLoop P c Q S:=VWp.nilOwn t T sz ht h
end Go.V
namespace Go.V
open Go
def VCalls.wkA(c:VCalls P g (DV.wk.go args) hp R):VCalls P g args hp R:=
 ⟨fun w β vs hh ha=>c.run w β vs hh ⟨by rw [Q0,Jf]; exact ha.1,fun i d hd=>by
  rw[Q0,Jh] at hd
  obtain⟨x,h1,h2⟩:=Qz hd
  subst h2
  exact(ha.2 i x h1).wk⟩⟩
end Go.V
namespace Go.V
open Go
structure Cut(h h':Qa):Prop where
 len:h'.length=h.length
 at_:∀ (k:Nat) (B:Blk),h[k]?=some B->∃ B',h'[k]?=some B'/\B'.ty=B.ty/\B'.live=B.live/\∃ t,B.cells=B'.cells++t
def Cut.back(c:Cut h h'){k:Nat}(hk:h'[k]?=some B'):∃ B,h[k]?=some B/\B'.ty=B.ty/\B'.live=B.live/\∃ t,B.cells=B'.cells++t:=by
 have hlt:k<h.length:=by rw[<- c.len]; exact(Jc.1 hk).1
 obtain⟨B2,g1,g2⟩:=c.at_ k h[k] (Jb hlt)
 rw[hk] at g1
 cases g1
 exact⟨h[k],Jb hlt,g2⟩
def Cut.live{h h':Qa}(c:Cut h h'){β:Map}{b:Nat}:live β h' b ↔ live β h b:=by
 constructor
 ·rintro ⟨k,B,h1,h2,h3⟩
  obtain⟨B2,g1,_,g3,_⟩:=c.back h1
  exact⟨k,B2,g1,g3▸h2,h3⟩
 ·rintro ⟨k,B,h1,h2,h3⟩
  obtain⟨B2,g1,_,g3,_⟩:=c.at_ k B h1
  exact⟨k,B2,g1,g3.trans h2,h3⟩
def Cut.evo(c:Cut h h')(w:World)(β:Map):Evo w β h w β h':=
 ⟨rfl,rfl,rfl,Jl _,by rw[c.len]; exact Jl _,fun _ _=>rfl,fun _ _ _=>rfl,fun _ C _ m e=>⟨C,m,e,rfl⟩,fun _ _ l=>c.live.1 l,rfl⟩
def Cut.heap(c:Cut h h')(hh:HeapRel w β h):HeapRel w β h':=by
 refine⟨fun k B b h1 h2 h3=>?_,fun k B h1 h2 h3=>?_,fun j k B B' b h1 h2 h3 h4 h5 h6=>?_,fun k B b h1 h2 h3=>?_,hh.bound⟩
 ·obtain ⟨B2,g1,g2,g3,t,g4⟩:=c.back h1
  obtain⟨C,e1,e2,e3⟩:=hh.blk k B2 b g1 (g3▸h2) h3
  refine⟨C,g2▸e1,by rw[g4,Jg] at e2; omega,fun i d hd=>?_⟩
  have:B2.cells[i]?=some d:=by rw[g4,Ji (Jc.1 hd).1]; exact hd
  exact⟨(e3 i d this).1,(e3 i d this).2.mono (c.evo w β)⟩
 ·obtain ⟨B2,g1,g2,g3,t,g4⟩:=c.back h1
  have:=hh.none k B2 g1 (g3▸h2) h3
  rw[g4] at this
  exact(List.append_eq_nil_iff.1 this).1
 ·obtain ⟨B2,g1,_,g3,_⟩:=c.back h1
  obtain⟨B3,i1,_,i3,_⟩:=c.back h2
  exact hh.inj j k B2 B3 b g1 i1 (g3▸h3) (i3▸h4) h5 h6
 ·obtain ⟨B2,g1,_,g3,_⟩:=c.back h1
  exact hh.avoid k B2 b g1 (g3▸h2) h3
def VCalls.cut(c:VCalls P g args h R)(hr:∀ r h',R r h'->∃ h'',Cut h' h''/\R' r h''):VCalls P g args h R':=
 ⟨fun w β vs hh ha=>(c.run w β vs hh ha).mono fun _ w' ⟨v,r,h',β',e1,ev,hh',hd,hR⟩=>by
  obtain⟨h'',hc,hR'⟩:=hr r h' hR
  exact⟨v,r,h'',β',e1,ev.trans (hc.evo w' β'),hc.heap hh',hd.mono (hc.evo w' β'),hR'⟩⟩
def Cut.refl(h:Qa):Cut h h:=⟨rfl,fun k B hk=>⟨B,hk,rfl,rfl,[],by simp⟩⟩
def Cut.last(h:Qa)(T:TypeId)(b:Bool)(cs t:List DV):Cut (h++[⟨T,b,cs++t⟩]) (h++[⟨T,b,cs⟩]):=by
 refine⟨by simp,fun k B hk=>?_⟩
 rcases Kk k h.length with hlt | heq | hgt
 ·rw [Ji hlt] at hk |-
  exact⟨B,hk,rfl,rfl,[],by simp⟩
 ·subst heq
  simp only[List.getElem?_concat_length,KW.injEq] at hk |-
  subst hk
  exact⟨_,rfl,rfl,rfl,t,rfl⟩
 ·rw[Jy (by simp; omega)] at hk; cases hk
end Go.V
namespace Go.V
open Go
structure Gm(keep:List Nat)(S S':St):Prop where
 nt:S'.nt=S.nt
 base:S'.base=S.base
 low:∀ k,k<S.base->∃ B,S'.hp[k]?=some B/\B.live=false
 nodup:keep.Nodup
 len:S'.hp.length=S.base+keep.length
 hp:∀ (i k:Nat),keep[i]?=some k->∃ B B',S.hp[k]?=some B/\S'.hp[S.base+i]?=some B'/\B'.ty=B.ty/\B'.live=B.live/\B'.cells=B.cells.map (DV.ren fun k=>S.base+keep.idxOf k)/\(B.live=true->DV.nums.go keep.contains B.cells=true)
 tm:∀ t,V.look S'.tm t=.any\/(V.look S'.tm t=(V.look S.tm t).ren (fun k=>S.base+keep.idxOf k)/\(V.look S.tm t).nums keep.contains=true)
def Sim.gm (h:Sim O β S a w) (g:Gm keep S S'):∃ β',Sim O β' S' a w:=by
 let β':Map:=⟨fun i=>if i<S.base then β.f i else (keep[i-S.base]?).bind β.f,β.X⟩
 have hO:O.hp.length=S.base:=h.base
 have back:∀ {i:Nat} {B':Blk},S'.hp[i]?=some B'->B'.live=true->∃ k B,S.base<=i/\keep[i-S.base]?=some k/\S.hp[k]?=some B/\B'.ty=B.ty/\B'.live=B.live/\B'.cells=B.cells.map (DV.ren fun k=>S.base+keep.idxOf k)/\(B.live=true->DV.nums.go keep.contains B.cells=true)/\β'.f i=β.f k:=by
  intro i B' hi hl
  have hge:S.base<=i:=by
   rcases Ue i S.base with hlt | hge
   ·obtain ⟨B,h1,h2⟩:=g.low i hlt
    rw[hi] at h1; cases h1; rw[hl] at h2; cases h2
   ·exact hge
  have hlt:i-S.base<keep.length:=by have:=(Jc.1 hi).1; rw[g.len] at this; omega
  have hk:keep[i-S.base]?=some keep[i-S.base]:=Jb hlt
  obtain⟨B,B'',h1,h2,h3,h4,h5,h6⟩:=g.hp _ _ hk
  rw[show S.base+(i-S.base)=i by omega,hi] at h2
  cases h2
  exact⟨_,B,hge,hk,h1,h3,h4,h5,h6,by simp[β',hk]; omega⟩
 have hsub:∀ b,live β' S'.hp b->live β S.hp b:=by
  rintro b ⟨i,B',h1,h2,h3⟩
  obtain⟨k,B,_,_,k2,_,k4,_,_,k7⟩:=back h1 h2
  exact⟨k,B,k2,by rw[<- k4]; exact h2,by rw[<- k7]; exact h3⟩
 have him:∀ b,img β' S'.hp b->img β S.hp b:=fun b hb=>hb.imp id (hsub b)
 have hσ:∀ k,keep.contains k=true->k<S.hp.length->S.base+keep.idxOf k<S'.hp.length/\β'.f (S.base+keep.idxOf k)=β.f k:=by
  intro k hk _
  have hm:k∈keep:=by simpa using hk
  have hlt:=KA hm
  refine⟨by rw[g.len]; omega,?_⟩
  have hnl:¬ S.base+List.idxOf k keep<S.base:=by omega
  simp[β',Jb hlt,hnl]
 refine⟨β',h.defers,by rw[g.nt]; exact h.size,fun t=>?_,?_,?_,h.base.trans g.base.symm⟩
 ·rcases g.tm t with e | ⟨e,hn⟩
  ·rw[e]; exact .any _
  ·rw[e]; exact RelD.ren hσ him (h.tm t) hn
 ·have hh:=h.heap
  refine⟨fun i B' b h1 h2 h3=>?_,fun i B' h1 h2 h3=>?_,fun i j B B' b h1 h2 h3 h4 h5 h6=>?_,fun i B' b h1 h2 h3=>?_,hh.bound⟩
  ·obtain ⟨k,B,_,k1,k2,k3,k4,k5,k6,k7⟩:=back h1 h2
   rw[k7] at h3
   have hl:B.live=true:=by rw[<- k4]; exact h2
   obtain⟨C,c1,c2,c3⟩:=hh.blk k B b k2 hl h3
   refine⟨C,by rw[k3]; exact c1,by rw[k5,Jf]; exact c2,fun j d hd=>?_⟩
   rw[k5,Jh] at hd
   cases hx:B.cells[j]? with
   | none=>simp[hx] at hd
   | some x =>
     simp[hx] at hd
     subst hd
     obtain⟨o1,o2⟩:=c3 j x hx
     refine⟨?_,RelD.ren hσ him o2 (DV.nums_go (k6 hl) j x hx)⟩
     cases x<;>first | rfl | exact o1
  ·obtain ⟨k,B,_,k1,k2,k3,k4,k5,k6,k7⟩:=back h1 h2
   rw[k7] at h3
   rw[k5,hh.none k B k2 (by rw[<- k4]; exact h2) h3]; rfl
  ·obtain ⟨k,D,g1,k1,k2,k3,k4,k5,k6,k7⟩:=back h1 h3
   obtain⟨k',D',g2,l1,l2,l3,l4,l5,l6,l7⟩:=back h2 h4
   rw[k7] at h5
   rw[l7] at h6
   have:=hh.inj k k' D D' b k2 l2 (by rw[<- k4]; exact h3) (by rw[<- l4]; exact h4) h5 h6
   subst this
   obtain⟨hi,e1⟩:=Jc.1 k1
   obtain⟨hj,e2⟩:=Jc.1 l1
   have:=(List.getElem_inj g.nodup).1 (e1.trans e2.symm)
   omega
  ·obtain ⟨k,B,_,k1,k2,k3,k4,k5,k6,k7⟩:=back h1 h2
   rw[k7] at h3
   exact hh.avoid k B b k2 (by rw[<- k4]; exact h2) h3
 ·have ev:=h.evo
  have hlow:∀ k,k<O.hp.length->β'.f k=β.f k:=fun k hk=>by simp[β',show k<S.base by omega]
  exact⟨ev.os,ev.tape,ev.output,ev.size,by rw[g.len]; omega,fun k hk=>(hlow k hk).trans (ev.beta k hk),ev.same,ev.shape,fun b hb hl=>ev.im b hb (hsub b hl),ev.X⟩
def QET(n:Nat)(keep:List Nat)(tm:List (Nat×DV)):List (Nat×DV)->Prop
 | []=>True
 | (t,d)::r=>(d=(V.look tm t).ren (fun k=>n+keep.idxOf k)/\(V.look tm t).nums keep.contains=true)/\QET n keep tm r
def QkO:∀ {tm':List (Nat × DV)},QET n keep tm tm'->∀ t,V.look tm' t = .any\/(V.look tm' t = (V.look tm t).ren (fun k=>n + keep.idxOf k)/\(V.look tm t).nums keep.contains = true)
 | [],_,t=>.inl rfl
 | (a,d) :: r,h,t=>by
   simp only[V.look]
   split
   ·rename_i e; subst e; exact .inr h.1
   ·exact QkO h.2 t
def QB2(n:Nat)(keep:List Nat)(cs cs':List DV):Prop:=(DV.nums.go (fun _=>false) cs=true/\cs'=cs)\/(cs'=cs.map (DV.ren fun k=>n+keep.idxOf k)/\DV.nums.go keep.contains cs=true)
def QE1(n:Nat)(keep:List Nat)(hp:Qa):List Nat->Qa->Prop
 | [],[]=>True
 | k::r,B'::r'=>(∃ B,hp[k]?=some B/\B'.ty=B.ty/\B'.live=B.live/\QB2 n keep B.cells B'.cells)/\QE1 n keep hp r r'
 | _,_=>False
def QoD:∀ {l:List Nat} {hp':Qa},QE1 n keep hp l hp'->hp'.length = l.length/\∀ (i k:Nat),l[i]? = some k->∃ B B',hp[k]? = some B/\hp'[i]? = some B'/\B'.ty = B.ty/\B'.live = B.live/\B'.cells = B.cells.map (DV.ren fun k=>n + keep.idxOf k)/\(B.live = true->DV.nums.go keep.contains B.cells = true)
 | [],[],_=>⟨rfl,fun i k h=>by simp at h⟩
 | [],_::_,h=>h.elim
 | _::_,[],h=>h.elim
 | k0 :: r,B' :: r',h=>by
   obtain⟨⟨B,h1,h2,h3,h4⟩,h5⟩:=h
   obtain⟨g1,g2⟩:=QoD h5
   refine⟨by simp[g1],fun i k hk=>?_⟩
   cases i with
   | zero =>
     simp at hk
     subst hk
     refine⟨B,B',h1,rfl,h2,h3,?_⟩
     rcases h4 with⟨n,e⟩ | ⟨e,n⟩
     ·exact⟨by rw[e,<- DV.ren_go,Qbk _ _ n],fun _=>QS _ _ n⟩
     ·exact⟨e,fun _=>n⟩
   | succ i=>exact g2 i k (by simpa using hk)
def Qhz:List TypeId->Qa:=List.map fun T=>⟨T,false,[]⟩
def VWp.move(keep:List Nat)(Ts:List TypeId)(tm':List (Nat×DV))(hp':Qa)(hb:Ts.length=S.base)(hn:keep.Nodup)(hh:QE1 S.base keep S.hp keep hp')(ht:QET S.base keep S.tm tm')(h:VWp P c Q ⟨S.nt,S.base,tm',Qhz Ts++hp'⟩):VWp P c Q S:=fun O β a w hs=>by
 obtain⟨g1,g2⟩:=QoD hh
 have hl:(Qhz Ts).length=S.base:=by simp[Qhz,hb]
 obtain⟨β',h'⟩:=hs.gm (keep:=keep) (S':=⟨S.nt,S.base,tm',Qhz Ts++hp'⟩) ⟨rfl,rfl,fun k hk=>by
  have hlt:k<(Qhz Ts).length:=by omega
  refine⟨(Qhz Ts)[k],by show(Qhz Ts++hp')[k]?=_; rw[Ji hlt,Jb hlt],by simp[Qhz]⟩,hn,by show(Qhz Ts++hp').length=_; rw[Jg,hl,g1],fun i k hk=>by
  obtain⟨B,B',e1,e2,e3⟩:=g2 i k hk
  exact⟨B,B',e1,by show(Qhz Ts++hp')[S.base+i]?=_; rw[Jo (by omega),hl,show S.base+i-S.base=i by omega]; exact e2,e3⟩,QkO ht⟩
 exact h O β' a w h'
def VLoop.move(keep:List Nat)(Ts:List TypeId)(tm':List (Nat×DV))(hp':Qa)(hb:Ts.length=S.base)(hn:keep.Nodup)(hh:QE1 S.base keep S.hp keep hp')(ht:QET S.base keep S.tm tm')(h:VLoop P c Q ⟨S.nt,S.base,tm',Qhz Ts++hp'⟩):VLoop P c Q S:=VWp.move keep Ts tm' hp' hb hn hh ht h
end Go.V
namespace Go.V
open Go
def QEV(n:Nat)(hp:Qa)(tm:List (Nat×DV)):List (Nat×DV)->Prop
 | []=>True
 | (t,d)::r=>frz n hp (V.look tm t)=some d/\QEV n hp tm r
def QgN:∀ {tm':List (Nat × DV)},QEV n hp tm tm'->∀ t,V.look tm' t = .any\/frz n hp (V.look tm t) = some (V.look tm' t)
 | [],_,t=>.inl rfl
 | (a,d) :: r,h,t=>by
   simp only[V.look]
   split
   ·rename_i e; subst e; exact .inr h.1
   ·exact QgN h.2 t
structure Fz(S S':St):Prop where
 nt:S'.nt=S.nt
 base:S'.base=S.base
 hp:Qbs S.base S.hp=some S'.hp
 tm:QEV S.base S.hp S.tm S'.tm
def Sim.fz(h:Sim O β S a w)(g:Fz S S'):Sim O β S' a w:=by
 have hn:S.base<=S.hp.length:=by rw[<- h.base]; exact h.evo.len
 have one:∀ {d:DV} {v:Value} {d':DV},RelD w β S.hp d v->frz S.base S.hp d=some d'->RelD w β S'.hp d' v/\HeapRel w β S'.hp/\S'.hp.length=S.base/\∀ b,live β S'.hp b->live β S.hp b:=by
  intro d v d' hd hf
  obtain⟨e,hp',⟨r1,r2⟩,k2,k3,k4,k5⟩:=Qdo h.heap hn hd (R:=fun e hp'=>e=d'/\hp'=S'.hp) (by unfold Qvh; rw[hf,g.hp]; exact⟨rfl,rfl⟩)
  subst r1 r2
  exact⟨k2,k3,k4,k5⟩
 obtain⟨_,k3,k4,k5⟩:=one (d:=.any) (v:=undef) (d':=.any) (.any _) rfl
 refine⟨h.defers,by rw[g.nt]; exact h.size,fun t=>?_,k3,?_,h.base.trans g.base.symm⟩
 ·rcases QgN g.tm t with e | e
  ·rw[e]; exact .any _
  ·exact(one (h.tm t) e).1
 ·have ev:=h.evo
  exact⟨ev.os,ev.tape,ev.output,ev.size,by rw[k4,<- h.base]; exact Jl _,ev.beta,ev.same,ev.shape,fun b hb hl=>ev.im b hb (k5 b hl),ev.X⟩
def VWp.fz(S':St)(g:Fz S S')(h:VWp P c Q S'):VWp P c Q S:=fun O β a w hs=>h O β a w (hs.fz g)
def VLoop.fz(S':St)(g:Fz S S')(h:VLoop P c Q S'):VLoop P c Q S:=VWp.fz S' g h
end Go.V
namespace Go.V
open Go
def VCalls.giveA{g:FuncId}{args args0:List DV}{hp:Qa}{R:DV->Prop}(ha:Qh (args.map (QqJ hp))=some args0)(c:VCalls P g args0 [] fun r h'=>h'=[]/\r.nums (fun _=>false)=true/\R r):
 VCalls P g args hp fun r h'=>h'=hp.map (fun B=>⟨B.ty,false,[]⟩)/\R r:=by
 refine⟨fun w β vs hh hr=>?_⟩
 let βc:Map:=⟨fun _=>none,β.X⟩
 have himc:∀ b,img βc [] b->β.X b:=fun b hb=>by
  rcases hb with hb | ⟨i,D,h1,_⟩
  ·exact hb
  ·simp at h1
 have hlv:Leaves w β hp 0 (img βc []):=⟨fun b hb=>.inl (himc b hb),fun k B b _ h1 h2 h3 hb=>hh.avoid k B b h1 h2 h3 (himc b hb)⟩
 have hhc:HeapRel w βc []:=⟨by simp,by simp,by simp,by simp,hh.bound⟩
 obtain⟨a1,a2⟩:=QE ha
 have hargs:RelL w βc [] args0 vs:=by
  refine⟨by rw[a1]; simpa using hr.1,fun i d hd=>?_⟩
  have h3:=a2 i d hd
  rw[Jh] at h3
  obtain⟨x,x1,x2⟩:=Qz h3
  exact QiU hh hlv (hr.2 i x x1) x2
 refine(c.run w βc vs hhc hargs).mono ?_
 rintro e w' ⟨v,r,h',β',rfl,ev,hh',hrel,rfl,hf,hR⟩
 have heap_same:∀ b,b<w.heap.size->w'.heap[b]?=w.heap[b]?:=fun b hb=>ev.same b hb (by rintro⟨k,B,h1,_⟩; simp at h1)
 have dead:∀ (k:Nat) (B:Blk),(hp.map (fun B=>(⟨B.ty,false,[]⟩:Blk)))[k]?=some B->B.live=false:=fun k B hk=>by
  rw[Jh] at hk
  obtain⟨x,_,x2⟩:=Qz hk
  subst x2; rfl
 have nolive:∀ b,¬ live β (hp.map (fun B=>(⟨B.ty,false,[]⟩:Blk))) b:=by
  rintro b ⟨k,B,h1,h2,_⟩
  rw[dead k B h1] at h2; cases h2
 have e:Evo w β hp w' β (hp.map (fun B=>⟨B.ty,false,[]⟩)):=⟨ev.os,ev.tape,ev.output,ev.size,by simp,fun _ _=>rfl,fun b hb _=>heap_same b hb,fun b C T m h=>⟨C,m,by rw[heap_same b (Ja.1 h).1]; exact h,rfl⟩,fun b _ h=>absurd h (nolive b),rfl⟩
 refine⟨v,r,_,β,rfl,e,?_,hrel.closed hf ?_,rfl,hR⟩
 ·refine ⟨fun k B b h1 h2 h3=>?_,fun k B h1 h2 h3=>?_,fun i j B B' b h1 h2 h3=>?_,fun k B b h1 h2 h3=>?_,fun b hb=>Jk (hh.bound b hb) ev.size⟩
  ·rw[dead k B h1] at h2; cases h2
  ·rw[dead k B h1] at h2; cases h2
  ·rw[dead i B h1] at h3; cases h3
  ·rw[dead k B h1] at h2; cases h2
 ·rintro b (hb | hb)
  ·exact .inl (by rw[ev.X]; exact hb)
  ·exact absurd hb (nolive b)
def QfR(hlt:∀ k∈sel,k<hp.length):QR hp sel ((sel.map fun k=>hp.getD k default).map (fun B=>⟨B.ty,false,[]⟩))=QlK hp sel:=by
 unfold QR
 rw[List.drop_of_length_le (by simp),K2,KN]
 apply Kl
 intro k
 rw[Qxn,Jh]
 by_cases hk:k<hp.length
 ·rw [KX hk,JD]
  have hget:hp[k]?=some hp[k]:=Jb hk
  by_cases hm:k∈sel
  ·have hc:sel.contains k = true:=by simpa using hm
   have hi:=KA hm
   rw[if_pos hc,if_pos hm,hget,JD]
   congr 1
   rw[Jn,Jh,Jh,Jb hi]
   simp[QdN,hget]
  ·have hc:sel.contains k = false:=by simpa using hm
   rw[if_neg (by rw[hc]; simp),if_neg hm,Jn,hget]; rfl
 ·rw [Jy (l:=JC hp.length) (by simpa using hk),Jy (l:=hp) (by omega)]
  simp
def Qga(sel:List Nat)(args1:List DV)(h0:Qa)(c:VCalls P g args0 [] (Ret d))(hh0:h0=sel.map fun k=>hp.getD k default)(hpl:Qg6 hp sel)(hnd:sel.Nodup)(ha1:args1=args.map (DV.ren fun j=>sel.idxOf j))(ha:DV.nums.go sel.contains args=true)(hf:Qh (args1.map (QqJ h0))=some args0)(h:K d (QlK hp sel)):VCalls P g args hp K:=by
 subst hh0
 have c1:=VCalls.giveA (R:=fun r=>r.nums (fun _=>false)=true/\r=d) hf (c.mono fun r h' e=>⟨e.1,e.2.1,e.2⟩)
 refine(VCalls.frame sel hnd (Qc4 hpl) (Qc5 hpl) c1 ha1 ha).mono ?_
 rintro r h2 ⟨r0,h',⟨rfl,hn,rfl⟩,_,rfl,rfl⟩
 rw[QfR fun k hk=>(QdB hpl k hk).1,QfF _ _ hn]
 exact h
end Go.V
namespace Go.V
open Go
def QnX(h:Sim O β S a w)(hk:S.hp[k]?=some B)(hd:B.cells[j]?=some d)(h1:d'.one=true)(hr:∀ v,RelD w β S.hp d v->RelD w β S.hp d' v):
 Sim O β ⟨S.nt,S.base,S.tm,S.hp.set k ⟨B.ty,B.live,B.cells.set j d'⟩⟩ a w:=by
 have hlt:k<S.hp.length:=(Jc.1 hk).1
 have at_:∀ {i:Nat} {D:Blk},(S.hp.set k ⟨B.ty,B.live,B.cells.set j d'⟩)[i]?=some D->∃ D0,S.hp[i]?=some D0/\D.ty=D0.ty/\D.live=D0.live/\D.cells.length=D0.cells.length/\(D=D0\/(i=k/\D0=B/\D.cells=B.cells.set j d')):=by
  intro i D hi
  rw[JS] at hi
  split at hi
  ·rename_i e
   subst e
   simp[hlt] at hi
   subst hi
   exact⟨B,hk,rfl,rfl,by simp,.inr ⟨rfl,rfl,rfl⟩⟩
  ·exact⟨D,hi,rfl,rfl,rfl,.inl rfl⟩
 have lv:∀ b,live β (S.hp.set k ⟨B.ty,B.live,B.cells.set j d'⟩) b->live β S.hp b:=by
  rintro b ⟨i,D,g1,g2,g3⟩
  obtain⟨D0,e1,_,e3,_⟩:=at_ g1
  exact⟨i,D0,e1,e3▸g2,g3⟩
 have e:Evo w β S.hp w β (S.hp.set k ⟨B.ty,B.live,B.cells.set j d'⟩):=
  ⟨rfl,rfl,rfl,Jl _,by simp,fun _ _=>rfl,fun _ _ _=>rfl,fun _ C _ m h=>⟨C,m,h,rfl⟩,fun b _ hb=>lv b hb,rfl⟩
 have hh:=h.heap
 refine⟨h.defers,h.size,fun t=>(h.tm t).mono e,?_,h.evo.trans e,h.base⟩
 refine⟨fun i D b g1 g2 g3=>?_,fun i D g1 g2 g3=>?_,fun i i2 D D2 b g1 g2 g3 g4 g5 g6=>?_,fun i D b g1 g2 g3=>?_,hh.bound⟩
 ·obtain ⟨D0,e1,e2,e3,e4,e5⟩:=at_ g1
  obtain⟨C,c1,c2,c3⟩:=hh.blk i D0 b e1 (e3▸g2) g3
  refine⟨C,e2▸c1,by rw[e4]; exact c2,fun n x hx=>?_⟩
  rcases e5 with rfl | ⟨rfl,rfl,e6⟩
  ·exact⟨(c3 n x hx).1,(c3 n x hx).2.mono e⟩
  ·rw [e6,JS] at hx
   split at hx
   ·rename_i en
    subst en
    have hjl:j<D0.cells.length:=(Jc.1 hd).1
    simp[hjl] at hx
    subst hx
    exact⟨h1,(hr _ (c3 j d hd).2).mono e⟩
   ·exact⟨(c3 n x hx).1,(c3 n x hx).2.mono e⟩
 ·obtain ⟨D0,e1,e2,e3,e4,e5⟩:=at_ g1
  have:=hh.none i D0 e1 (e3▸g2) g3
  rw[this] at e4
  exact List.length_eq_zero_iff.1 e4
 ·obtain ⟨D0,e1,e2,e3,_⟩:=at_ g1
  obtain⟨D1,f1,f2,f3,_⟩:=at_ g2
  exact hh.inj i i2 D0 D1 b e1 f1 (e3▸g3) (f3▸g4) g5 g6
 ·obtain ⟨D0,e1,e2,e3,_⟩:=at_ g1
  exact hh.avoid i D0 b e1 (e3▸g2) g3
def VWp.nilOwnC (k j:Nat) (T:TypeId) (sz:Nat) (hk:S.hp[k]? = some B) (hd:B.cells[j]? = some (.pv (.slc []))) (h:VWp P c Q ⟨S.nt,S.base,S.tm,(S.hp ++ [(⟨T,true,[]⟩:Blk)]).set k ⟨B.ty,B.live,B.cells.set j (.own S.hp.length sz 0 0)⟩⟩):VWp P c Q S:=fun O β a w hs=>by
 have e:Evo w β S.hp w (ext β S.hp.length none) (S.hp++[(⟨T,true,[]⟩:Blk)]):=by
  refine⟨rfl,rfl,rfl,Jl _,by simp,fun j hj=>Qa0 hj,fun _ _ _=>rfl,fun _ C _ m h=>⟨C,m,h,rfl⟩,fun b _ hb=>?_,rfl⟩
  obtain⟨j,D,g1,g2,g3⟩:=hb
  rcases Kk j S.hp.length with hlt | heq | hgt
  ·rw[Ji hlt] at g1; rw[Qa0 hlt] at g3; exact⟨j,D,g1,g2,g3⟩
  ·subst heq; simp[ext] at g3
  ·rw[Jo (by omega),Jy (by simp; omega)] at g1; simp at g1
 have h2:Sim O (ext β S.hp.length none) ⟨S.nt,S.base,S.tm,S.hp++[⟨T,true,[]⟩]⟩ a w:=
  ⟨hs.defers,hs.size,fun u=>(hs.tm u).mono e,Qc0 hs.heap rfl e (by simp) (fun _=>rfl) (fun _ _=>rfl),hs.evo.trans e,hs.base⟩
 have hlt:k<S.hp.length:=(Jc.1 hk).1
 refine h O _ a w (QnX h2 (k:=k) (j:=j) (B:=B) (d:=.pv (.slc [])) (d':=.own S.hp.length sz 0 0) (by show(S.hp++_)[k]?=_; rw[Ji hlt]; exact hk) hd rfl ?_)
 intro v hv
 cases hv with
 | pv _ _ hp0=>cases hp0 with
   | slc _ ad sz2 val g1 g2 g3 g4 g5=>exact .own0 _ _ ad (by simp) (by simp[ext]) trivial
def VLoop.nilOwnC(k j:Nat)(T:TypeId)(sz:Nat)(hk:S.hp[k]?=some B)(hd:B.cells[j]?=some (.pv (.slc [])))(h:VLoop P c Q ⟨S.nt,S.base,S.tm,(S.hp++[(⟨T,true,[]⟩:Blk)]).set k ⟨B.ty,B.live,B.cells.set j (.own S.hp.length sz 0 0)⟩⟩):VLoop P c Q S:=VWp.nilOwnC k j T sz hk hd h
end Go.V
namespace Go.V
open Go
def Blk.wk(B:Blk):Blk:=⟨B.ty,B.live,DV.wk.go B.cells⟩
def QmI(tm:List (Nat×DV)):List (Nat×DV):=tm.map fun p=>(p.1,p.2.wk)
def QfM(hp:Qa):Qa:=hp.map Blk.wk
def DV.wk_one(d:DV)(h:d.one=true):d.wk.one=true:=by
 cases d<;>first | rfl | (simp[DV.one] at h)
def Qts:∀ (tm:List (Nat × DV)) (t:Nat),look (QmI tm) t = (look tm t).wk
 | [],_=>rfl
 | (u,d) :: r,t=>by
   simp only[QmI,Js,look]
   split
   ·rfl
   ·exact Qts r t
def QkY(h:Sim O β S a w):Sim O β ⟨S.nt,S.base,QmI S.tm,QfM S.hp⟩ a w:=by
 have at_:∀ {i:Nat} {D:Blk},(QfM S.hp)[i]?=some D->∃ D0,S.hp[i]?=some D0/\D=D0.wk:=by
  intro i D hi
  rw[QfM,Jh] at hi
  obtain⟨x,h1,h2⟩:=Qz hi
  exact⟨x,h1,h2.symm⟩
 have lv:∀ b,live β (QfM S.hp) b->live β S.hp b:=by
  rintro b ⟨i,D,g1,g2,g3⟩
  obtain⟨D0,e1,rfl⟩:=at_ g1
  exact⟨i,D0,e1,g2,g3⟩
 have e:Evo w β S.hp w β (QfM S.hp):=
  ⟨rfl,rfl,rfl,Jl _,by simp[QfM],fun _ _=>rfl,fun _ _ _=>rfl,fun _ C _ m h=>⟨C,m,h,rfl⟩,fun b _ hb=>lv b hb,rfl⟩
 have hh:=h.heap
 refine⟨h.defers,h.size,fun t=>by show RelD w β (QfM S.hp) (look (QmI S.tm) t) _; rw[Qts]; exact((h.tm t).mono e).wk,?_,h.evo.trans e,h.base⟩
 refine⟨fun i D b g1 g2 g3=>?_,fun i D g1 g2 g3=>?_,fun i i2 D D2 b g1 g2 g3 g4 g5 g6=>?_,fun i D b g1 g2 g3=>?_,hh.bound⟩
 ·obtain ⟨D0,e1,rfl⟩:=at_ g1
  obtain⟨C,c1,c2,c3⟩:=hh.blk i D0 b e1 g2 g3
  refine⟨C,c1,by show(DV.wk.go D0.cells).length<=_; rw[Q0,Jf]; exact c2,fun n x hx=>?_⟩
  have hx2:(DV.wk.go D0.cells)[n]?=some x:=hx
  rw[Q0,Jh] at hx2
  obtain⟨y,h1,h2⟩:=Qz hx2
  subst h2
  exact⟨DV.wk_one _ (c3 n y h1).1,((c3 n y h1).2.mono e).wk⟩
 ·obtain ⟨D0,e1,rfl⟩:=at_ g1
  have:=hh.none i D0 e1 g2 g3
  show DV.wk.go D0.cells=[]
  rw[this]; rfl
 ·obtain ⟨D0,e1,rfl⟩:=at_ g1
  obtain⟨D1,f1,rfl⟩:=at_ g2
  exact hh.inj i i2 D0 D1 b e1 f1 g3 g4 g5 g6
 ·obtain ⟨D0,e1,rfl⟩:=at_ g1
  exact hh.avoid i D0 b e1 g2 g3
def VWp.wkS(h:VWp P c Q ⟨S.nt,S.base,QmI S.tm,QfM S.hp⟩):VWp P c Q S:=fun O β a w hs=>h O β a w (QkY hs)
def VLoop.wkS(h:VLoop P c Q ⟨S.nt,S.base,QmI S.tm,QfM S.hp⟩):VLoop P c Q S:=VWp.wkS h
end Go.V
namespace Go.V
open Go
structure FzN(n:Nat)(S S':St):Prop where
 nt:S'.nt=S.nt
 base:S'.base=S.base
 lo:S.base<=n
 hi:n<=S.hp.length
 hp:Qbs n S.hp=some S'.hp
 tm:QEV n S.hp S.tm S'.tm
def Sim.fzN(h:Sim O β S a w)(g:FzN n S S'):Sim O β S' a w:=by
 have one:∀ {d:DV} {v:Value} {d':DV},RelD w β S.hp d v->frz n S.hp d=some d'->RelD w β S'.hp d' v/\HeapRel w β S'.hp/\S'.hp.length=n/\∀ b,live β S'.hp b->live β S.hp b:=by
  intro d v d' hd hf
  obtain⟨e,hp',⟨r1,r2⟩,k2,k3,k4,k5⟩:=Qdo h.heap g.hi hd (R:=fun e hp'=>e=d'/\hp'=S'.hp) (by unfold Qvh; rw[hf,g.hp]; exact⟨rfl,rfl⟩)
  subst r1 r2
  exact⟨k2,k3,k4,k5⟩
 obtain⟨_,k3,k4,k5⟩:=one (d:=.any) (v:=undef) (d':=.any) (.any _) rfl
 refine⟨h.defers,by rw[g.nt]; exact h.size,fun t=>?_,k3,?_,h.base.trans g.base.symm⟩
 ·rcases QgN g.tm t with e | e
  ·rw[e]; exact .any _
  ·exact(one (h.tm t) e).1
 ·have ev:=h.evo
  exact⟨ev.os,ev.tape,ev.output,ev.size,by rw[k4]; have:=h.base; have:=g.lo; omega,ev.beta,ev.same,ev.shape,fun b hb hl=>ev.im b hb (k5 b hl),ev.X⟩
def QqE(S S':St):Prop:=QoZ S S'\/∃ n S1,QoZ S S1/\FzN n S1 S'
def Sim.weakN(h:Sim O β S a w)(g:QqE S S'):∃ β',Sim O β' S' a w:=by
 rcases g with g | ⟨n,S1,g1,g2⟩
 ·exact h.weak g
 ·obtain ⟨β',h'⟩:=h.weak g1
  exact⟨β',h'.fzN g2⟩
def VWp.weakN(S':St)(g:QqE S S')(h:VWp P c Q S'):VWp P c Q S:=fun O β a w hs=>
 let ⟨β',hs'⟩:=hs.weakN g
 h O β' a w hs'
def Qrj {c:Code} {Q:Exit->St->Prop} {ι:Type} (I:ι->St) (μ:ι->Nat) (i₀:ι) (h₀:QqE S (I i₀)) (round:∀ i,Qx P c (Qad Q fun S'=>∃ j,μ j < μ i/\QqE S' (I j)) (I i)):VLoop P c Q S:=by
 intro O β a w hs b k cs
 have key:∀ n β i a w,μ i = n->Sim O β (I i) a w ->
  ∃ e a' w',QlC O Q e a' w'/\Arrives P (lone (b.at a (.code c::.inLoop c::k)) cs w) b k cs e a' w':=by
  intro n
  induction n using KB with
  | _ n ih =>
    intro β i a w hn hs
    obtain⟨e,a₁,w₁,hq,harr⟩:=Qv c _ _ (round i) O β a w hs b (.inLoop c::k) cs
    obtain⟨β₁,S₁,hs₁,hq⟩:=hq
    cases e with
    | normal =>
      obtain⟨j,hlt,hle⟩:=hq
      obtain⟨β₂,hs₂⟩:=hs₁.weakN hle
      obtain⟨e₂,a₂,w₂,hq₂,harr₂⟩:=ih (μ j) (hn▸hlt) β₂ j a₁ w₁ rfl hs₂
      exact⟨e₂,a₂,w₂,hq₂,.of_steps (Steps.trans harr (.one step_inLoop)) harr₂⟩
    | exit id=>exact⟨_,a₁,w₁,⟨β₁,S₁,hs₁,hq⟩,.pass (x:=.inLoop c) rfl (fun _ _=>.inl (by simp)) harr⟩
    | goto l=>exact⟨_,a₁,w₁,⟨β₁,S₁,hs₁,hq⟩,.pass (x:=.inLoop c) rfl (fun _ _=>.inl (by simp)) harr⟩
    | ret=>exact⟨_,a₁,w₁,⟨β₁,S₁,hs₁,hq⟩,.pass (x:=.inLoop c) rfl (fun _ _=>.inl (by simp)) harr⟩
    | panic ch=>exact⟨_,a₁,w₁,⟨β₁,S₁,hs₁,hq⟩,.pass (x:=.inLoop c) rfl (fun _ _=>.inl (by simp)) harr⟩
    | outgrown=>exact⟨_,a₁,w₁,⟨β₁,S₁,hs₁,hq⟩,.pass (x:=.inLoop c) rfl (fun _ _=>.inl (by simp)) harr⟩
 obtain⟨β₀,hs₀⟩:=hs.weakN h₀
 obtain⟨e,a',w',hq,harr⟩:=key _ β₀ i₀ a w rfl hs₀
 exact⟨e,a',w',hq,.of_steps (.one step_loop) harr⟩
end Go.V
namespace Go.V
def Qlx(h:n<=140737488355328):(n<=140737488355328)=True:=eq_true h
end Go.V
namespace Go.V
def Qgy(e:Enc α)(l:List α)(T:TypeId)(a b:Nat)(h:a<=b/\b<=l.length):Qo4 (some (none,T,e.sz)) (fz e l) a b=some (.pv (.sl (fz e ((l.take b).drop a)))):=by
 have h1:fz e l=[]\/(fz e l)[0]?.map Ky=some e.sz:=by
  cases l with
  | nil=>exact .inl rfl
  | cons x r=>exact .inr (QtZ e (x::r) (by simp))
 simp only[Qo4]
 rw[if_pos ⟨h.1,by rw[QlS]; exact h.2,h1⟩,QtY,QBD]
end Go.V
namespace Go.V
def QfO(e:Enc α)(l:List α):(fz e l=[]\/(fz e l)[0]?.map Ky=some e.sz)=True:=by
 refine eq_true ?_
 cases l with
 | nil=>exact .inl rfl
 | cons x r=>exact .inr (QtZ e (x::r) (by simp))
def Qce(n:Nat):((n:Int)+1).toNat=n+1:=by omega
def QbC(n:Nat):((n:Int)-1).toNat=n-1:=by omega
end Go.V
namespace Go.V
open Go
attribute [go_sem ↓] Qtt Qzz QzA Qvw QzG QuJ QnC QuM Qx4 Qqj QuK QuL Qx5 Qg8 Qlk QjO Qh8 Qm6 Qll Qq3 Qsa Qr6 Qpz Qr9 Qr8 Qr7 QAd QvJ QxY QxV Quw QxX QxW QuN Qo2 QvP QrA Qkr Qq7 Qxr Qzk Qvu Qzm
attribute [go_sem] QvB QkG Qm8 Quf Qpa QhX QjR Qnx QvA QkF Qm7 Que Qrf Qjq Qzt QmE Qrd Qjo Qlp Qp7 QhT Qej QvC QkH Qm9 Qq9 Qjk Qln Qkt Qf0 Qha Qj4 Qre Qjp Qlq Qp8 Qvz QkE Qud Qmv QgI Qia Qku Qf1 Qjd Qfc Qra Qjl Qlo Qjf Qfe Qf5 Qig Qrc Qjn Qje Qfd Qf4 Qif Qrb Qjm Qmu QgH Qh9 QlX Qug Qp4 QlY Qp5 Quh QpN Qmw QgJ Qjj QzN Qs4 QwZ QBZ QBL Qyg Qyi Qyh Qx2 Qw4 QvD Qo9 Qv1 QrR QrS Qv2 QrU QrQ Qv3 QrT QqW Qtf Qte QpJ QD3 QxO QBS Qnc Qls Qib QjS Qhc QwV QwW QFP Quj Quk QpZ QpY Qrp QvG Qro QBF QDZ Qt2 QBE QxH QBG QxG QBK QxJ QnH QfS QlV QAA QAz Qvx Qq6 Qxf QA4 QzC QzD QvE QvF QrV Qzi Qzj Qyc Qyd Qv7 Qv8 QEj Qyn QrC QqB QnJ QDy QAS QDz Qun Qrt QxN Qru Qqa QvH Qvy Qzs Qxu Qkw QtS Qrn QtR Qrm QtN Qrl QtM Qrk QB7 QB6 QBv QBj QBo QBu QDS QBi QBt QBn QBp QBq QBr QBs QBm QBl QBk QcY Qz2 Qz0 QCT QCS QBQ QDL QCG QA7 QA8 QA6 Qzx QEm Qu0 QCd QCe QEk QEl Qta QpM QxQ Quo QAU Qw6 Qlm QAT Qx3 QzM QD4 Qrq Qpg Qph QFQ Qv6 Qnt Qp2 QmR QmQ QkW QkV Qh2 QqZ QqY QB8 QzR QzQ QAO QAN Qs3 pvs List.flatten_nil K2 Qcs QkK QfX Qa6 QkX Qmt QzP Qd0 Qri V.kill QlK V.rows List.toList_toArray List.getElem?_cons_zero KJ List.getElem?_nil Jd Je Js Kt K9 KN KU List.take_zero List.take_nil KV Km List.drop_nil List.set_cons_zero List.set_cons_succ List.any_nil List.any_cons JD Option.map_none Ku Ks Option.getD_none Option.isSome_some Option.isSome_none Kc Int.toNat_natCast Jz Nat.add_zero Uc Uj KT decide_true decide_false true_and and_true and_self false_and and_false true_or or_true or_false false_or or_self not_true_eq_false not_false_eq_true ne_eq Ke Kb Bool.or_true Bool.true_or Bool.or_false Bool.false_or Bool.and_true Bool.true_and Bool.and_false Bool.false_and Bool.or_self Bool.and_self Bool.not_not QB9 QCa cond_true cond_false Bool.cond_self beq_self_eq_true Nat.lt_irrefl Jl QqX Qzl Qw1 Qs7 QpK QuB Qqe QuD QuE QuF Ql6 Qva QqC QnK Qpv QmS Op.operands QwY QoG QD0 QlS Qfu QdJ QuS Jj QdK QBC QGn DV.wk DV.wk.go PV.wk QGu QxI Qt5 Qt4 QBJ QBI Qmp Qo0 QFK QFL QtK QtL QtI QtJ Ret DV.nums DV.nums.go
end Go.V
namespace Go.V
def polyB:BitVec 32:=2197175160#32
def rb(r:BitVec 32):BitVec 32:=(r >>> 1) ^^^ (if r.getLsbD 0=true then polyB else 0#32)
def rbN:Nat->BitVec 32->BitVec 32
 | 0,r=>r
 | n+1,r=>rb (rbN n r)
def QDr(x y:BitVec 32):rb (x ^^^ y)=rb x ^^^ rb y:=by
 apply BitVec.eq_of_getLsbD_eq
 intro i hi
 simp only[rb,BitVec.getLsbD_xor,BitVec.getLsbD_ushiftRight]
 cases x.getLsbD 0<;>cases y.getLsbD 0<;>simp<;>cases x.getLsbD (1+i)<;>cases y.getLsbD (1+i)<;>cases polyB.getLsbD i<;>rfl
def QAH(n:Nat)(x y:BitVec 32):rbN n (x ^^^ y)=rbN n x ^^^ rbN n y:=by
 induction n with
 | zero=>rfl
 | succ n ih=>simp only[rbN,ih,QDr]
def QAJ(m n:Nat)(x:BitVec 32):rbN (m+n) x=rbN m (rbN n x):=by
 induction m with
 | zero=>simp[rbN]
 | succ m ih=>rw[KY]; simp only[rbN,ih]
def QAI (n:Nat) (x:BitVec 32) (h:∀ i,i < n->x.getLsbD i = false):rbN n x = x >>> n:=by
 induction n with
 | zero=>simp[rbN]
 | succ n ih =>
   rw[rbN,ih (fun i hi=>h i (by omega)),rb]
   have e:(x >>> n).getLsbD 0=false:=by rw[BitVec.getLsbD_ushiftRight]; exact h _ (by omega)
   rw[e]
   simp[BitVec.shiftRight_add]
def b32(b:UInt8):BitVec 32:=b.toBitVec.setWidth 32
def cb(r:BitVec 32)(b:UInt8):BitVec 32:=rbN 8 (r ^^^ b32 b)
def le:List UInt8->BitVec 32
 | []=>0#32
 | b::l=>b32 b ^^^ (le l <<< 8)
def Qz5(x:BitVec 32)(n:Nat)(h:∀ i,32-n<=i->x.getLsbD i=false)(hn:n<=32):rbN n (x <<< n)=x:=by
 rw[QAI _ _ (fun i hi=>by simp[BitVec.getLsbD_shiftLeft,hi])]
 apply BitVec.eq_of_getLsbD_eq
 intro i hi
 simp only[BitVec.getLsbD_ushiftRight,BitVec.getLsbD_shiftLeft]
 by_cases h1:n+i<32
 ·simp[h1]
 ·simp[h1]; rw[h i (by omega)]
def QcN(b:BitVec 32):IntKind.u32.wrap (b.toNat:Int)=(b.toNat:Int):=by
 have:=b.isLt
 simp[IntKind.wrap,IntKind.signed,IntKind.bits]; omega
def QeI(x:BitVec 32):BitVec.ofInt 32 (x.toNat:Int)=x:=by
 apply BitVec.eq_of_toNat_eq
 have:=x.isLt
 simp
def QqQ(x y:BitVec 32):bits .xor .u32 (x.toNat:Int) (y.toNat:Int)=((x ^^^ y).toNat:Int):=by
 show IntKind.u32.wrap ((BitVec.ofInt 32 (x.toNat:Int) ^^^ BitVec.ofInt 32 (y.toNat:Int)).toNat:Int)=_
 rw[QeI,QeI,QcN]
def QEq(x y:BitVec 32):bits .and .u32 (x.toNat:Int) (y.toNat:Int)=((x &&& y).toNat:Int):=by
 show IntKind.u32.wrap ((BitVec.ofInt 32 (x.toNat:Int) &&& BitVec.ofInt 32 (y.toNat:Int)).toNat:Int)=_
 rw[QeI,QeI,QcN]
def QC4(x:BitVec 32)(n:Nat):(x.toNat:Int).fdiv (2 ^ n)=((x >>> n).toNat:Int):=by
 have e:((2:Int) ^ n)=((2 ^ n:Nat):Int):=by rw[Int.natCast_pow]; rfl
 rw[e,Int.fdiv_eq_ediv_of_nonneg _ (Int.natCast_nonneg _),BitVec.toNat_ushiftRight,Nat.shiftRight_eq_div_pow]
 rfl
def Qu3(b:UInt8):IntKind.u32.wrap (b.toNat:Int)=((b32 b).toNat:Int):=by
 have e:(b32 b).toNat=b.toNat:=by
  have:=b.toNat_lt
  simp[b32]
 rw[<- e,QcN]
end Go.V
namespace Go.V
open Go
def Qq0(e:Option (Option Nat×TypeId×Nat))(xs:List (List PV))(a b c:Nat):Option DV:=
 match e with
 | some (none,_,sz)=>if a<=b/\b=c/\b<=xs.length/\(xs=[]\/(xs[0]?.map Ky)=some sz) then some (.pv (.slc ((xs.take b).drop a))) else none
 | _=>none
def Qpo(h1:0<=j)(h2:0<=m):Qbu P T (.pv (.sl xs)) none (some (.pv (.lit (.int k2 j)))) (some (.pv (.lit (.int k3 m))))=Qq0 (QQ P T) xs 0 j.toNat m.toNat:=by
 unfold Qbu Qq0
 rcases QQ P T with _ | ⟨_ | n,t,sz⟩<;>simp[QkX,Qni,QpV,h1,h2]
def Qvv(e:Enc α)(l:List α)(T:TypeId):Qq0 (some (none,T,e.sz)) (fz e l) 0 l.length l.length=some (.pv (.slc (fz e l))):=by
 unfold Qq0
 have h:=QfO e l
 simp only[QlS,JG,Jl,h,and_self,if_true,Km]
 rw[Ki (by rw[QlS]; exact Jl _)]
attribute [go_sem] Qpo
variable {α:Type} (e:Enc α)
theorem QnY(l:List α)(i:Nat)(x:α)(h:i<l.length):splice (cells e l) (i*e.sz) ((e.enc x).map DV.pv)=cells e (l.set i x):=by
 have:=QkU e l [x] i
 rw[List.set_eq_take_append_cons_drop,if_pos h]
 rw[show l.take i++x::l.drop (i+1)=l.take i++[x]++l.drop (i+[x].length) by simp,<- this]
 congr 1
 simp[cells]
end Go.V
namespace Go.V
open Go
def QBy(hh:HeapRel w β hp):HeapRel w β (QfM hp)/\Evo w β hp w β (QfM hp):=by
 have at_:∀ {i:Nat} {D:Blk},(QfM hp)[i]?=some D->∃ D0,hp[i]?=some D0/\D=D0.wk:=by
  intro i D hi
  rw[QfM,Jh] at hi
  obtain⟨x,h1,h2⟩:=Qz hi
  exact⟨x,h1,h2.symm⟩
 have lv:∀ b,live β (QfM hp) b->live β hp b:=by
  rintro b ⟨i,D,g1,g2,g3⟩
  obtain⟨D0,e1,rfl⟩:=at_ g1
  exact⟨i,D0,e1,g2,g3⟩
 have e:Evo w β hp w β (QfM hp):=
  ⟨rfl,rfl,rfl,Jl _,by simp[QfM],fun _ _=>rfl,fun _ _ _=>rfl,fun _ C _ m h=>⟨C,m,h,rfl⟩,fun b _ hb=>lv b hb,rfl⟩
 refine⟨⟨fun i D b g1 g2 g3=>?_,fun i D g1 g2 g3=>?_,fun i i2 D D2 b g1 g2 g3 g4 g5 g6=>?_,fun i D b g1 g2 g3=>?_,hh.bound⟩,e⟩
 ·obtain ⟨D0,e1,rfl⟩:=at_ g1
  obtain⟨C,c1,c2,c3⟩:=hh.blk i D0 b e1 g2 g3
  refine⟨C,c1,by show(DV.wk.go D0.cells).length<=_; rw[Q0,Jf]; exact c2,fun n x hx=>?_⟩
  have hx2:(DV.wk.go D0.cells)[n]?=some x:=hx
  rw[Q0,Jh] at hx2
  obtain⟨y,h1,h2⟩:=Qz hx2
  subst h2
  exact⟨DV.wk_one _ (c3 n y h1).1,((c3 n y h1).2.mono e).wk⟩
 ·obtain ⟨D0,e1,rfl⟩:=at_ g1
  have:=hh.none i D0 e1 g2 g3
  show DV.wk.go D0.cells=[]
  rw[this]; rfl
 ·obtain ⟨D0,e1,rfl⟩:=at_ g1
  obtain⟨D1,f1,rfl⟩:=at_ g2
  exact hh.inj i i2 D0 D1 b e1 f1 g3 g4 g5 g6
 ·obtain ⟨D0,e1,rfl⟩:=at_ g1
  exact hh.avoid i D0 b e1 g2 g3
def VCalls.wkH(c:VCalls P g (DV.wk.go args) (QfM hp) R):VCalls P g args hp R:=by
 refine VCalls.wkA ⟨fun w β vs hh ha=>?_⟩
 obtain⟨h1,e1⟩:=QBy hh
 refine(c.run w β vs h1 ⟨ha.1,fun i d hd=>(ha.2 i d hd).mono e1⟩).mono ?_
 rintro _ w' ⟨v,r,h',β',a,b,c,d,k⟩
 exact⟨v,r,h',β',a,e1.trans b,c,d,k⟩
theorem Qgq:QfM []=[]:=rfl
theorem QeN:QfM (B::r)=⟨B.ty,B.live,DV.wk.go B.cells⟩::QfM r:=rfl
theorem Qeh:DV.wk.go []=[]:=rfl
theorem Qdm:DV.wk.go (d::r)=d.wk::DV.wk.go r:=rfl
end Go.V
namespace Go.V
open Go
end Go.V
namespace Go.V
open Go
def SimLe(S S':St):Prop:=∀ (O:Org) (β:Map) (a:Act) (w:World),Sim O β S a w->∃ β',Sim O β' S' a w
def SimLe.refl(S:St):SimLe S S:=fun _ β _ _ h=>⟨β,h⟩
def SimLe.trans(h:SimLe S S1)(g:SimLe S1 S2):SimLe S S2:=fun O β a w hs=>
 let ⟨β1,h1⟩:=h O β a w hs
 g O β1 a w h1
def SimLe.weak(h:QoZ S S'):SimLe S S':=fun _ _ _ _ hs=>hs.weak h
def SimLe.fzN(h:FzN n S S'):SimLe S S':=fun _ β _ _ hs=>⟨β,hs.fzN h⟩
def SimLe.wk(h:SimLe ⟨S.nt,S.base,QmI S.tm,QfM S.hp⟩ S'):SimLe S S':=fun O β a w hs=>h O β a w (QkY hs)
def VWp.simLe(S':St)(g:SimLe S S')(h:VWp P c Q S'):VWp P c Q S:=fun O β a w hs=>
 let ⟨β',hs'⟩:=g O β a w hs
 h O β' a w hs'
def VLoop.simLe(S':St)(g:SimLe S S')(h:VLoop P c Q S'):VLoop P c Q S:=VWp.simLe S' g h
def VDraw.simLe{id:Nat}(S':St)(g:SimLe S S')(h:VDraw P id ops Q S'):VDraw P id ops Q S:=VWp.simLe S' g h
def QpX:Nat->Code->Code
 | n+1,.seq a b=>.seq a (QpX n b)
 | _,_=>.skip
def Qh5:Nat->Code->Code
 | n+1,.seq _ b=>Qh5 n b
 | _,c=>c
def QFf:∀ (n:Nat) {c:Code} {Q:Exit->St->Prop} {S:St},Qx P (QpX n c) (Qad Q fun S'=>∃ S'',SimLe S' S''/\VWp P (Qh5 n c) Q S'') S->VWp P c Q S
 | 0,c,Q,S,h=>by
   have h:∃ S'',SimLe S S''/\VWp P (Qh5 0 c) Q S'':=by cases c<;>exact h
   obtain⟨S'',h1,h2⟩:=h
   cases c<;>exact VWp.simLe S'' h1 h2
 | n + 1,c,Q,S,h=>by
   cases c with
   | seq a b =>
     intro O β ac w hs
     simp only[QpX,Qx] at h
     refine wp_seq (wp_mono (Qv a _ S h O β ac w hs) fun e a' w' hq=>?_)
     obtain⟨β',S',hs',hq⟩:=hq
     cases e with
     | normal=>exact QFf n (c:=b) hq O β' a' w' hs'
     | _=>exact⟨β',S',hs',hq⟩
   | _ =>
     obtain⟨S'',h1,h2⟩:=(h:∃ S'',SimLe S S''/\_)
     exact VWp.simLe S'' h1 h2
theorem QnR:QmI []=[]:=rfl
theorem QkN:QmI ((t,d)::r)=(t,d.wk)::QmI r:=rfl
def Qys(a b:List DV):DV.wk.go (a++b)=DV.wk.go a++DV.wk.go b:=by rw[Q0,Q0,Q0,Kx]
theorem Qc8:QpX (n+1) (.seq a b)=.seq a (QpX n b):=rfl
def Qcn:QpX 0 c=.skip:=by cases c<;>rfl
theorem QaE:Qh5 (n+1) (.seq a b)=Qh5 n b:=rfl
def Qal:Qh5 0 c=c:=by cases c<;>rfl
def QzI(h:Qx P c Q ⟨S.nt,S.base,QmI S.tm,QfM S.hp⟩):∃ S'',SimLe S S''/\VWp P c Q S'':=
 ⟨_,.wk (.refl _),Qv _ _ _ h⟩
def QfD(P:Program)(rs:List ResultVar)(n:Nat)(R:DV->Qa->Prop)(e:Exit)(S:St):Prop:=QcR P rs n R e ⟨S.nt,S.base,QmI S.tm,QfM S.hp⟩
def Qo7:QfD P rs n R .ret S=QcR P rs n R .ret ⟨S.nt,S.base,QmI S.tm,QfM S.hp⟩:=(rfl)
def Qjc:QfD P rs n R .normal S=QcR P rs n R .normal ⟨S.nt,S.base,QmI S.tm,QfM S.hp⟩:=(rfl)
def VWp.postK(h:VWp P c (QfD P rs n R) S):VWp P c (QcR P rs n R) S:=fun O β a w hs=>
 wp_mono (h O β a w hs) fun _ _ _ ⟨β',_,hs',hq⟩=>⟨β',_,QkY hs',hq⟩
def QkD(hf:P.funcs[g]?=some fn)(hb:fn.body=some c)(hname:(fn.name == "runtime.NumGoroutine")=false)(hn:args.length<=fn.ntmps)(hc:Qx P c (QfD P fn.results.toList h.length R) ⟨fn.ntmps,h.length,Qgs 0 args,h⟩):VCalls P g args h R:=
 QcW hf hb hname hn (Qv c _ _ hc).postK
attribute [go_sem ↓] Qo7 Qjc
attribute [go_sem] QnR QkN Qgq QeN Qeh Qdm
end Go.V
namespace Go.V
open Go
variable {α:Type} (e:Enc α)
end Go.V
namespace Go.V
open Go
def rn{A P Q:Prop}(a:A)(q:Q)(h:A->P=Q:=by intro f1; (try simp(maxSteps:=2000000) (implicitDefEqProofs:=false) (disch:=first | omega | assumption | (simp only[List.length_cons,List.length_nil,Nat.zero_add,Nat.reduceAdd]; done) | (simp only[IntKind.wrap_i64]; omega) | (simp only[List.length_replicate,List.length_set,List.length_append,List.length_cons,List.length_nil,List.length_take,List.length_drop,List.length_map]<;>omega) | fail) only[go_sem,V.splice,V.mk,mkI,mkB,mkU,↓reduceIte,reduceCtorEq,Nat.reduceAdd,Nat.reduceLT,Nat.reduceLeDiff,Nat.reduceEqDiff,Nat.reduceMul,Nat.reduceSub,Nat.reduceBEq,Nat.reduceDiv,Nat.reducePow,Int.reduceToNat,Int.reduceLT,Int.reduceLE,Int.reduceNeg,Int.reduceAdd,Int.reduceSub,Int.reduceMul,Int.reduceEq,Int.reduceBEq,Int.reduceBNe,f1]); exact rfl):P:=(h a).mpr q
def rd{A P:Prop}(a:A)(h:A->P:=by intro f1; first | (simp(maxSteps:=2000000) (implicitDefEqProofs:=false) (disch:=first | omega | assumption | (simp only[List.length_cons,List.length_nil,Nat.zero_add,Nat.reduceAdd]; done) | (simp only[IntKind.wrap_i64]; omega) | (simp only[List.length_replicate,List.length_set,List.length_append,List.length_cons,List.length_nil,List.length_take,List.length_drop,List.length_map]<;>omega) | fail) only[go_sem,V.splice,V.mk,mkI,mkB,mkU,↓reduceIte,reduceCtorEq,Nat.reduceAdd,Nat.reduceLT,Nat.reduceLeDiff,Nat.reduceEqDiff,Nat.reduceMul,Nat.reduceSub,Nat.reduceBEq,Nat.reduceDiv,Nat.reducePow,Int.reduceToNat,Int.reduceLT,Int.reduceLE,Int.reduceNeg,Int.reduceAdd,Int.reduceSub,Int.reduceMul,Int.reduceEq,Int.reduceBEq,Int.reduceBNe,f1]<;>fail "no") | fail "no"):P:=h a
def sG{A X Y Q1 Q2:Prop}{all:List Oper}{o:Oper}{r:List Oper}{K:St->Prop}{G:Bool}(a:A)(q1:X->Q1)(q2:Y->Q2)(hx:(G=true)=X:=by(try simp only[decide_eq_true_eq,decide_eq_false_iff_not,Bool.or_eq_true,Bool.and_eq_true,Bool.or_eq_false_iff,Bool.and_eq_false_imp,Bool.not_eq_true',Bool.not_eq_false',beq_iff_eq,beq_eq_false_iff_ne,bne_iff_ne,bne_eq_false_iff_eq,ne_eq,Bool.not_eq_eq_eq_not,Bool.not_true,Bool.not_false,Int.not_lt,Int.not_le,Nat.not_lt,Nat.not_le]); exact rfl)(hy:(G=false)=Y:=by(try simp only[decide_eq_true_eq,decide_eq_false_iff_not,Bool.or_eq_true,Bool.and_eq_true,Bool.or_eq_false_iff,Bool.and_eq_false_imp,Bool.not_eq_true',Bool.not_eq_false',beq_iff_eq,beq_eq_false_iff_ne,bne_iff_ne,bne_eq_false_iff_eq,ne_eq,Bool.not_eq_eq_eq_not,Bool.not_true,Bool.not_false,Int.not_lt,Int.not_le,Nat.not_lt,Nat.not_le]); exact rfl)(h1:A->X->G=true->(Qe7 P all o r K S true)=Q1:=by intro f1 hZ hG; (try rewrite [hG]); (first | rewrite [(hZ:_=false)] | rewrite [(hZ:_=true)] | skip); (try simp(maxSteps:=2000000) (implicitDefEqProofs:=false) (disch:=first | omega | assumption | (simp only[List.length_cons,List.length_nil,Nat.zero_add,Nat.reduceAdd]; done) | (simp only[IntKind.wrap_i64]; omega) | (simp only[List.length_replicate,List.length_set,List.length_append,List.length_cons,List.length_nil,List.length_take,List.length_drop,List.length_map]<;>omega) | fail) only[go_sem,V.splice,V.mk,mkI,mkB,mkU,↓reduceIte,reduceCtorEq,Nat.reduceAdd,Nat.reduceLT,Nat.reduceLeDiff,Nat.reduceEqDiff,Nat.reduceMul,Nat.reduceSub,Nat.reduceBEq,Nat.reduceDiv,Nat.reducePow,Int.reduceToNat,Int.reduceLT,Int.reduceLE,Int.reduceNeg,Int.reduceAdd,Int.reduceSub,Int.reduceMul,Int.reduceEq,Int.reduceBEq,Int.reduceBNe,f1]); exact rfl)(h2:A->Y->G=false->(Qe7 P all o r K S false)=Q2:=by intro f1 hZ hG; (try rewrite [hG]); (first | rewrite [(hZ:_=false)] | rewrite [(hZ:_=true)] | skip); (try simp(maxSteps:=2000000) (implicitDefEqProofs:=false) (disch:=first | omega | assumption | (simp only[List.length_cons,List.length_nil,Nat.zero_add,Nat.reduceAdd]; done) | (simp only[IntKind.wrap_i64]; omega) | (simp only[List.length_replicate,List.length_set,List.length_append,List.length_cons,List.length_nil,List.length_take,List.length_drop,List.length_map]<;>omega) | fail) only[go_sem,V.splice,V.mk,mkI,mkB,mkU,↓reduceIte,reduceCtorEq,Nat.reduceAdd,Nat.reduceLT,Nat.reduceLeDiff,Nat.reduceEqDiff,Nat.reduceMul,Nat.reduceSub,Nat.reduceBEq,Nat.reduceDiv,Nat.reducePow,Int.reduceToNat,Int.reduceLT,Int.reduceLE,Int.reduceNeg,Int.reduceAdd,Int.reduceSub,Int.reduceMul,Int.reduceEq,Int.reduceBEq,Int.reduceBNe,f1]); exact rfl):Qe7 P all o r K S G:=
 QgB (fun e=>by subst e; exact(h1 a (hx▸rfl) rfl).mpr (q1 (hx▸rfl))) (fun e=>by subst e; exact(h2 a (hy▸rfl) rfl).mpr (q2 (hy▸rfl)))
def sD{A X Y Q1 Q2:Prop}{all:List Oper}{o:Oper}{r:List Oper}{fs:List (List Nat×Bool)}{K:St->Prop}{G:Bool}(a:A)(q1:X->Q1)(q2:Y->Q2)(hx:(G=true)=X:=by(try simp only[decide_eq_true_eq,decide_eq_false_iff_not,Bool.or_eq_true,Bool.and_eq_true,Bool.or_eq_false_iff,Bool.and_eq_false_imp,Bool.not_eq_true',Bool.not_eq_false',beq_iff_eq,beq_eq_false_iff_ne,bne_iff_ne,bne_eq_false_iff_eq,ne_eq,Bool.not_eq_eq_eq_not,Bool.not_true,Bool.not_false,Int.not_lt,Int.not_le,Nat.not_lt,Nat.not_le]); exact rfl)(hy:(G=false)=Y:=by(try simp only[decide_eq_true_eq,decide_eq_false_iff_not,Bool.or_eq_true,Bool.and_eq_true,Bool.or_eq_false_iff,Bool.and_eq_false_imp,Bool.not_eq_true',Bool.not_eq_false',beq_iff_eq,beq_eq_false_iff_ne,bne_iff_ne,bne_eq_false_iff_eq,ne_eq,Bool.not_eq_eq_eq_not,Bool.not_true,Bool.not_false,Int.not_lt,Int.not_le,Nat.not_lt,Nat.not_le]); exact rfl)(h1:A->X->G=true->(Qpi P all o r fs K S true)=Q1:=by intro f1 hZ hG; (try rewrite [hG]); (first | rewrite [(hZ:_=false)] | rewrite [(hZ:_=true)] | skip); (try simp(maxSteps:=2000000) (implicitDefEqProofs:=false) (disch:=first | omega | assumption | (simp only[List.length_cons,List.length_nil,Nat.zero_add,Nat.reduceAdd]; done) | (simp only[IntKind.wrap_i64]; omega) | (simp only[List.length_replicate,List.length_set,List.length_append,List.length_cons,List.length_nil,List.length_take,List.length_drop,List.length_map]<;>omega) | fail) only[go_sem,V.splice,V.mk,mkI,mkB,mkU,↓reduceIte,reduceCtorEq,Nat.reduceAdd,Nat.reduceLT,Nat.reduceLeDiff,Nat.reduceEqDiff,Nat.reduceMul,Nat.reduceSub,Nat.reduceBEq,Nat.reduceDiv,Nat.reducePow,Int.reduceToNat,Int.reduceLT,Int.reduceLE,Int.reduceNeg,Int.reduceAdd,Int.reduceSub,Int.reduceMul,Int.reduceEq,Int.reduceBEq,Int.reduceBNe,f1]); exact rfl)(h2:A->Y->G=false->(Qpi P all o r fs K S false)=Q2:=by intro f1 hZ hG; (try rewrite [hG]); (first | rewrite [(hZ:_=false)] | rewrite [(hZ:_=true)] | skip); (try simp(maxSteps:=2000000) (implicitDefEqProofs:=false) (disch:=first | omega | assumption | (simp only[List.length_cons,List.length_nil,Nat.zero_add,Nat.reduceAdd]; done) | (simp only[IntKind.wrap_i64]; omega) | (simp only[List.length_replicate,List.length_set,List.length_append,List.length_cons,List.length_nil,List.length_take,List.length_drop,List.length_map]<;>omega) | fail) only[go_sem,V.splice,V.mk,mkI,mkB,mkU,↓reduceIte,reduceCtorEq,Nat.reduceAdd,Nat.reduceLT,Nat.reduceLeDiff,Nat.reduceEqDiff,Nat.reduceMul,Nat.reduceSub,Nat.reduceBEq,Nat.reduceDiv,Nat.reducePow,Int.reduceToNat,Int.reduceLT,Int.reduceLE,Int.reduceNeg,Int.reduceAdd,Int.reduceSub,Int.reduceMul,Int.reduceEq,Int.reduceBEq,Int.reduceBNe,f1]); exact rfl):Qpi P all o r fs K S G:=
 Qiu (fun e=>by subst e; exact(h1 a (hx▸rfl) rfl).mpr (q1 (hx▸rfl))) (fun e=>by subst e; exact(h2 a (hy▸rfl) rfl).mpr (q2 (hy▸rfl)))
def sB{A X Y Q1 Q2:Prop}{c d:Code}{Q:Exit->St->Prop}{G:Bool}(a:A)(q1:X->Q1)(q2:Y->Q2)(hx:(G=true)=X:=by(try simp only[decide_eq_true_eq,decide_eq_false_iff_not,Bool.or_eq_true,Bool.and_eq_true,Bool.or_eq_false_iff,Bool.and_eq_false_imp,Bool.not_eq_true',Bool.not_eq_false',beq_iff_eq,beq_eq_false_iff_ne,bne_iff_ne,bne_eq_false_iff_eq,ne_eq,Bool.not_eq_eq_eq_not,Bool.not_true,Bool.not_false,Int.not_lt,Int.not_le,Nat.not_lt,Nat.not_le]); exact rfl)(hy:(G=false)=Y:=by(try simp only[decide_eq_true_eq,decide_eq_false_iff_not,Bool.or_eq_true,Bool.and_eq_true,Bool.or_eq_false_iff,Bool.and_eq_false_imp,Bool.not_eq_true',Bool.not_eq_false',beq_iff_eq,beq_eq_false_iff_ne,bne_iff_ne,bne_eq_false_iff_eq,ne_eq,Bool.not_eq_eq_eq_not,Bool.not_true,Bool.not_false,Int.not_lt,Int.not_le,Nat.not_lt,Nat.not_le]); exact rfl)(h1:A->X->G=true->(Qx P c Q S)=Q1:=by intro f1 hZ hG; (try rewrite [hG]); (first | rewrite [(hZ:_=false)] | rewrite [(hZ:_=true)] | skip); (try simp(maxSteps:=2000000) (implicitDefEqProofs:=false) (disch:=first | omega | assumption | (simp only[List.length_cons,List.length_nil,Nat.zero_add,Nat.reduceAdd]; done) | (simp only[IntKind.wrap_i64]; omega) | (simp only[List.length_replicate,List.length_set,List.length_append,List.length_cons,List.length_nil,List.length_take,List.length_drop,List.length_map]<;>omega) | fail) only[go_sem,V.splice,V.mk,mkI,mkB,mkU,↓reduceIte,reduceCtorEq,Nat.reduceAdd,Nat.reduceLT,Nat.reduceLeDiff,Nat.reduceEqDiff,Nat.reduceMul,Nat.reduceSub,Nat.reduceBEq,Nat.reduceDiv,Nat.reducePow,Int.reduceToNat,Int.reduceLT,Int.reduceLE,Int.reduceNeg,Int.reduceAdd,Int.reduceSub,Int.reduceMul,Int.reduceEq,Int.reduceBEq,Int.reduceBNe,f1]); exact rfl)(h2:A->Y->G=false->(Qx P d Q S)=Q2:=by intro f1 hZ hG; (try rewrite [hG]); (first | rewrite [(hZ:_=false)] | rewrite [(hZ:_=true)] | skip); (try simp(maxSteps:=2000000) (implicitDefEqProofs:=false) (disch:=first | omega | assumption | (simp only[List.length_cons,List.length_nil,Nat.zero_add,Nat.reduceAdd]; done) | (simp only[IntKind.wrap_i64]; omega) | (simp only[List.length_replicate,List.length_set,List.length_append,List.length_cons,List.length_nil,List.length_take,List.length_drop,List.length_map]<;>omega) | fail) only[go_sem,V.splice,V.mk,mkI,mkB,mkU,↓reduceIte,reduceCtorEq,Nat.reduceAdd,Nat.reduceLT,Nat.reduceLeDiff,Nat.reduceEqDiff,Nat.reduceMul,Nat.reduceSub,Nat.reduceBEq,Nat.reduceDiv,Nat.reducePow,Int.reduceToNat,Int.reduceLT,Int.reduceLE,Int.reduceNeg,Int.reduceAdd,Int.reduceSub,Int.reduceMul,Int.reduceEq,Int.reduceBEq,Int.reduceBNe,f1]); exact rfl):vbr P c d Q S G:=
 Qbi (fun e=>by subst e; exact(h1 a (hx▸rfl) rfl).mpr (q1 (hx▸rfl))) (fun e=>by subst e; exact(h2 a (hy▸rfl) rfl).mpr (q2 (hy▸rfl)))
def vp{A Q:Prop}{g:FuncId}{args:List DV}{hp:Qa}{K:DV->Qa->Prop}{d:DV}(a:A)(c:VCalls P g args [] (Ret d))(q:Q)(ha:DV.nums.go (fun _=>false) args=true:=by rfl)(h:A->K d hp=Q:=by intro f1; (try simp(maxSteps:=2000000) (implicitDefEqProofs:=false) (disch:=first | omega | assumption | (simp only[List.length_cons,List.length_nil,Nat.zero_add,Nat.reduceAdd]; done) | (simp only[IntKind.wrap_i64]; omega) | (simp only[List.length_replicate,List.length_set,List.length_append,List.length_cons,List.length_nil,List.length_take,List.length_drop,List.length_map]<;>omega) | fail) only[go_sem,V.splice,V.mk,mkI,mkB,mkU,↓reduceIte,reduceCtorEq,Nat.reduceAdd,Nat.reduceLT,Nat.reduceLeDiff,Nat.reduceEqDiff,Nat.reduceMul,Nat.reduceSub,Nat.reduceBEq,Nat.reduceDiv,Nat.reducePow,Int.reduceToNat,Int.reduceLT,Int.reduceLE,Int.reduceNeg,Int.reduceAdd,Int.reduceSub,Int.reduceMul,Int.reduceEq,Int.reduceBEq,Int.reduceBNe,f1]); exact rfl):VCalls P g args hp K:=QaK c ha ((h a).mpr q)
def vd{A Q:Prop}{g:FuncId}{args:List DV}{K:DV->Prop}{d:DV}(a:A)(c:VCalls P g args [] (Ret d))(q:Q)(ha:DV.nums.go (fun _=>false) args=true:=by rfl)(hd:d.nums (fun _=>false)=true:=by rfl)(h:A->K d=Q:=by intro f1; (try simp(maxSteps:=2000000) (implicitDefEqProofs:=false) (disch:=first | omega | assumption | (simp only[List.length_cons,List.length_nil,Nat.zero_add,Nat.reduceAdd]; done) | (simp only[IntKind.wrap_i64]; omega) | (simp only[List.length_replicate,List.length_set,List.length_append,List.length_cons,List.length_nil,List.length_take,List.length_drop,List.length_map]<;>omega) | fail) only[go_sem,V.splice,V.mk,mkI,mkB,mkU,↓reduceIte,reduceCtorEq,Nat.reduceAdd,Nat.reduceLT,Nat.reduceLeDiff,Nat.reduceEqDiff,Nat.reduceMul,Nat.reduceSub,Nat.reduceBEq,Nat.reduceDiv,Nat.reducePow,Int.reduceToNat,Int.reduceLT,Int.reduceLE,Int.reduceNeg,Int.reduceAdd,Int.reduceSub,Int.reduceMul,Int.reduceEq,Int.reduceBEq,Int.reduceBNe,f1]); exact rfl):vdc P g args K:=QvK c ha hd ((h a).mpr q)
def vl{A Q:Prop}{g:FuncId}{args args0:List DV}{hp:Qa}{K:DV->Qa->Prop}{d:DV}(a:A)(c:VCalls P g args0 [] (Ret d))(q:Q)(ha:A->Qh (args.map (QqJ hp))=some args0:=by intro f1; first | (simp(maxSteps:=2000000) (implicitDefEqProofs:=false) (disch:=first | omega | assumption | (simp only[List.length_cons,List.length_nil,Nat.zero_add,Nat.reduceAdd]; done) | (simp only[IntKind.wrap_i64]; omega) | (simp only[List.length_replicate,List.length_set,List.length_append,List.length_cons,List.length_nil,List.length_take,List.length_drop,List.length_map]<;>omega) | fail) only[go_sem,V.splice,V.mk,mkI,mkB,mkU,↓reduceIte,reduceCtorEq,Nat.reduceAdd,Nat.reduceLT,Nat.reduceLeDiff,Nat.reduceEqDiff,Nat.reduceMul,Nat.reduceSub,Nat.reduceBEq,Nat.reduceDiv,Nat.reducePow,Int.reduceToNat,Int.reduceLT,Int.reduceLE,Int.reduceNeg,Int.reduceAdd,Int.reduceSub,Int.reduceMul,Int.reduceEq,Int.reduceBEq,Int.reduceBNe,f1]<;>fail "no") | fail "no")(hf:d.flat=true:=by rfl)(h:A->K d hp=Q:=by intro f1; (try simp(maxSteps:=2000000) (implicitDefEqProofs:=false) (disch:=first | omega | assumption | (simp only[List.length_cons,List.length_nil,Nat.zero_add,Nat.reduceAdd]; done) | (simp only[IntKind.wrap_i64]; omega) | (simp only[List.length_replicate,List.length_set,List.length_append,List.length_cons,List.length_nil,List.length_take,List.length_drop,List.length_map]<;>omega) | fail) only[go_sem,V.splice,V.mk,mkI,mkB,mkU,↓reduceIte,reduceCtorEq,Nat.reduceAdd,Nat.reduceLT,Nat.reduceLeDiff,Nat.reduceEqDiff,Nat.reduceMul,Nat.reduceSub,Nat.reduceBEq,Nat.reduceDiv,Nat.reducePow,Int.reduceToNat,Int.reduceLT,Int.reduceLE,Int.reduceNeg,Int.reduceAdd,Int.reduceSub,Int.reduceMul,Int.reduceEq,Int.reduceBEq,Int.reduceBNe,f1]); exact rfl):VCalls P g args hp K:=QvO c (ha a) hf ((h a).mpr q)
def vr{g:FuncId}{args:List DV}{hp:Qa}{K:DV->Qa->Prop}{R:DV->Prop}(c:VCalls P g args [] fun r h'=>h'=[]/\r.nums (fun _=>false)=true/\R r)(q:∀ r,R r->K r hp)(ha:DV.nums.go (fun _=>false) args=true:=by rfl):VCalls P g args hp K:=QnN c ha q
def gc(keep:List Nat)(h1:S'.nt=S.nt:=by rfl)(h2:S'.base=S.base:=by rfl)(h3:keep.take S.base=JC S.base:=by rfl)(h4:keep.Nodup:=by decide)(h5:QE2 keep S.hp keep S'.hp:=by(repeat' apply And.intro)<;>first | trivial | rfl | exact⟨_,rfl,rfl,rfl,.inl ⟨rfl,rfl⟩⟩ | exact⟨_,rfl,rfl,rfl,.inl ⟨Qs _ _ _,rfl⟩⟩ | exact⟨_,rfl,rfl,rfl,.inl ⟨Qgj _ _,rfl⟩⟩ | exact⟨_,rfl,rfl,rfl,.inr ⟨rfl,rfl⟩⟩)(h6:QEU keep S.tm S'.tm:=by(repeat' apply And.intro)<;>first | trivial | rfl | exact⟨_,rfl,rfl,rfl,.inl ⟨rfl,rfl⟩⟩ | exact⟨_,rfl,rfl,rfl,.inl ⟨Qs _ _ _,rfl⟩⟩ | exact⟨_,rfl,rfl,rfl,.inl ⟨Qgj _ _,rfl⟩⟩ | exact⟨_,rfl,rfl,rfl,.inr ⟨rfl,rfl⟩⟩):QoZ S S':=QDW h1 h2 h3 h4 h5 h6
end Go.V
namespace Go.V
open Go
def QG{α:Type}(f:α->DV)(Q:α->Prop):DV->Qa->Prop:=fun r h'=>h'=[]/\r.nums (fun _=>false)=true/\∃ a,r=f a/\Q a
def Qo(c:VCalls P g args [] (QG f Q))(ha:DV.nums.go (fun _=>false) args=true)(h:∀ a,Q a->K (f a) hp):VCalls P g args hp K:=
 QnN (R:=fun r=>∃ a,r=f a/\Q a) c ha fun r ⟨a,e,q⟩=>e▸h a q
def QvN(c:VCalls P g args0 [] (QG f Q))(ha:Qh (args.map (QqJ hp))=some args0)(hf:∀ a,(f a).flat=true)(h:∀ a,Q a->K (f a) hp):VCalls P g args hp K:=
 (VCalls.lendA (R:=fun r=>∃ a,r=f a/\Q a) ha (c.mono fun r h' e=>⟨e.1,by obtain⟨_,_,a,rfl,_⟩:=e; exact hf a,e.2.2⟩)).mono fun r h' e=>by obtain⟨rfl,a,rfl,q⟩:=e; exact h a q
def Qjs(sel:List Nat)(args1:List DV)(h0:Qa)(c:VCalls P g args0 [] (QG f Q))(hh0:h0=sel.map fun k=>hp.getD k default)(hpl:Qg6 hp sel)(hnd:sel.Nodup)(ha1:args1=args.map (DV.ren fun j=>sel.idxOf j))(ha:DV.nums.go sel.contains args=true)(hf:Qh (args1.map (QqJ h0))=some args0)(h:∀ a,Q a->K (f a) (QlK hp sel)):VCalls P g args hp K:=by
 subst hh0
 have c1:=VCalls.giveA (R:=fun r=>r.nums (fun _=>false)=true/\∃ a,r=f a/\Q a) hf (c.mono fun r h' e=>⟨e.1,e.2.1,e.2⟩)
 refine(VCalls.frame sel hnd (Qc4 hpl) (Qc5 hpl) c1 ha1 ha).mono ?_
 rintro r h2 ⟨r0,h',⟨rfl,hn,a,rfl,q⟩,_,rfl,rfl⟩
 rw[QfR fun k hk=>(QdB hpl k hk).1,QfF _ _ hn]
 exact h a q
attribute [go_sem] DV.ren DV.ren.go KO List.getD_cons_succ List.getD_cons_zero
def VCalls.S(c:VCalls P g args hp (QG f Q))(h:∀ a,Q a->R a):VCalls P g args hp (QG f R):=
 c.mono fun _ _ ⟨h1,h2,a,e,q⟩=>⟨h1,h2,a,e,h a q⟩
def VCalls.toS(c:VCalls P g args hp (Ret d))(a:α)(e:d=f a)(q:Q a):VCalls P g args hp (QG f Q):=
 c.mono fun _ _ ⟨h1,h2,h3⟩=>⟨h1,h2,a,h3.trans e,q⟩
def RelD.own_nil (h:RelD w β hp (.own k sz off 0) v):RelD w β hp (.pv (.sl [])) v:=by
 cases h with
 | own _ _ _ _ cap b C T m h1 h2 h3 h4 h5 h6 =>
   exact .pv _ _ (.sl [] (some ⟨b,off,none⟩) cap 0 (fun _ _=>undef) (JG _) h4 (by simp) (by intro ad e _; cases e; rfl) (by simp) (by simp))
 | own0 _ _ a h1 h2 h3 =>
   exact .pv _ _ (.sl [] a 0 0 (fun _ _=>undef) (JG _) (JG _) (by simp) (by intro ad e h; omega) (by simp) (by simp))
def ne1:DV->DV
 | .own _ _ _ 0=>.pv (.sl [])
 | d=>d
def Qtq(h:0<n):ne1 (.own k sz off n)=.own k sz off n:=by cases n; omega; rfl
theorem Qot:ne1 (.own k sz off 0)=.pv (.sl []):=rfl
theorem QyQ:ne1 (.pv p)=.pv p:=rfl
def RelD.ne1(h:RelD w β hp d v):RelD w β hp (V.ne1 d) v:=by
 unfold V.ne1
 split
 ·exact h.own_nil
 ·exact h
def DV.ne:DV->DV
 | .agg cs=>.agg (cs.map ne1)
 | d=>d
def RelD.ne (h:RelD w β hp d v):RelD w β hp d.ne v:=by
 cases h with
 | agg ds vs h1 h2 =>
   refine .agg _ vs (by rw[Jf]; exact h1) fun i d hd=>?_
   rw[Jh] at hd
   obtain⟨x,e1,e2⟩:=Qz hd
   subst e2
   exact(h2 i x e1).ne1
 | pv p v h=>exact .pv p v h
 | ptr k off b h hb=>exact .ptr k off b h hb
 | own k sz off len cap b C T m h hb h1 h2 h3 h4=>exact .own k sz off len cap b C T m h hb h1 h2 h3 h4
 | ownc k sz off len cap b o C T m h hb h1 h2 h3 h4 h5=>exact .ownc k sz off len cap b o C T m h hb h1 h2 h3 h4 h5
 | own0 k sz a h1 h2 h3=>exact .own0 k sz a h1 h2 h3
 | ip cs ad val h1 h2 h3=>exact .ip cs ad val h1 h2 h3
 | fn f ds es vs us h1 h2 h3 h4=>exact .fn f ds es vs us h1 h2 h3 h4
 | tup ds vs h1 h2=>exact .tup ds vs h1 h2
 | opt c d v h1 h2=>exact .opt c d v h1 h2
 | any v=>exact .any v
def VCalls.neA(c:VCalls P g (args.map DV.ne) hp R):VCalls P g args hp R:=
 ⟨fun w β vs hh ha=>c.run w β vs hh ⟨by rw [Jf]; exact ha.1,fun i d hd=>by
  rw[Jh] at hd
  obtain⟨x,h1,h2⟩:=Qz hd
  subst h2
  exact(ha.2 i x h1).ne⟩⟩
def nf(h:b=true):¬ b=false:=by simp[h]
def nt(h:b=false):¬ b=true:=by simp[h]
def Qba{α:Type}{n m:Nat}{a b:Option α}(h:n<=m):(if n<=m then a else b)=a:=if_pos h
end Go.V
namespace Go.V
open Go
def Qq8(P:Program)(rs:List ResultVar)(R:DV->Qa->Prop)(e:Exit)(S:St):Prop:=∃ S',SimLe S S'/\Qar P rs R e S'
def VWp.postG(h:VWp P c (Qq8 P rs R) S):VWp P c (Qar P rs R) S:=fun O β a w hs=>
 wp_mono (h O β a w hs) fun _ _ _ ⟨_,_,hs',S',hw,hq⟩=>let ⟨β2,h2⟩:=hw _ _ _ _ hs'; ⟨β2,S',h2,hq⟩
def QA(S':St)(hw:QoZ S S')(h:Qar P rs R e S'):Qq8 P rs R e S:=⟨S',.weak hw,h⟩
def QkC(hf:P.funcs[g]?=some fn)(hb:fn.body=some c)(hname:(fn.name == "runtime.NumGoroutine")=false)(hn:args.length<=fn.ntmps)(hc:VWp P c (Qar P fn.results.toList R) ⟨fn.ntmps,h.length,Qgs 0 args,h⟩):VCalls P g args h R:=by
 refine Qfa hf hb hname hn (fun e S hq=>?_) hc
 unfold Qar at hq
 split at hq
 ·split at hq
  ·rename_i d hd; exact⟨.inl rfl,d,hd,.inr hq⟩
  ·exact hq.elim
 ·split at hq
  ·rename_i d hd; exact⟨.inr rfl,d,hd,.inr hq⟩
  ·exact hq.elim
 ·exact hq.elim
def QK(hf:P.funcs[g]?=some fn)(hb:fn.body=some c)(hname:(fn.name == "runtime.NumGoroutine")=false)(hn:args.length<=fn.ntmps)(hc:Qx P c (Qq8 P fn.results.toList R) ⟨fn.ntmps,h.length,Qgs 0 args,h⟩):VCalls P g args h R:=
 QkC hf hb hname hn (Qv c _ _ hc).postG
def Qmb(ha:a<hp.length)(hb:b<hp.length)(hc:c<hp.length)(ab:a≠b)(ac:a≠c)(bc:b≠c)(A B C:Blk)(r:Qa):
 QR hp [a,b,c] (A::B::C::r)=((hp.set a (QdN (back [a,b,c] hp.length) A)).set b (QdN (back [a,b,c] hp.length) B)).set c (QdN (back [a,b,c] hp.length) C)++r.map (QdN (back [a,b,c] hp.length)):=by
 unfold QR
 congr 1
 apply Kl
 intro j
 have q1:(a==b)=false:=by simp[ab]
 have q2:(a==c)=false:=by simp[ac]
 have q3:(b==c)=false:=by simp[bc]
 rw[Jh]
 by_cases hj:j<hp.length
 ·rw [KX hj,JD]
  by_cases e1:a=j
  ·subst e1; simp[ha,ab,ac,ab.symm,ac.symm]
  by_cases e2:b=j
  ·subst e2; simp[hb,bc,bc.symm,ab.symm,q1,KO]
  by_cases e3:c=j
  ·subst e3; simp[hc,q2,q3,KO]
  rw[if_neg (by simp[Ne.symm e1,Ne.symm e2,Ne.symm e3]),JS,if_neg e3,JS,if_neg e2,JS,if_neg e1,Jn,Jb hj]; rfl
 ·rw [Jy (by simpa using K5 hj),Jy (by simpa using K5 hj)]
  rfl
end Go.V
namespace Go.V
open Go
end Go.V
namespace Go.V
abbrev wd(r:Option Nat):Fence:={ Fence.wide with round:=r }
def QdS(h:Qm ev o=some (g,args)):∀ c,o≠.defer c:=by
 rintro c rfl
 simp[Qm] at h
def Qc3(h:vop P ev hp o=some r):∀ c,o≠.defer c:=by
 rintro c rfl
 simp[vop] at h
def Qi2 {rd:Option Nat} {n:Nat} {hp:Qa} {ev:Operand->DV} {a:Act} {o:Oper} (hev:∀ x,RelD w β hp (ev x) (a.eval x)) {g:FuncId} {args:List DV} (hc:Qm ev o.op = some (g,args)) {R:DV->Qa->Prop} (hh:HeapRel w β hp) (hcalls:VCalls P g args hp R) {next:Act->World->Prop} {Q:Exit->Act->World->Prop} (hn:∀ v r h' β' w',Evo w β hp w' β' h'->HeapRel w' β' h'->RelD w' β' h' r v->R r h'->next (a.put o.dst v) w'):o.wpIn (wd rd) n P a w next Q:=by
 have hnd:=QdS hc
 unfold Qm at hc
 split at hc
 ·rename_i c hop
  split at hc
  ·rename_i f hcal
   split at hc
   ·rename_i g' first cap hfn
    simp at hc
    obtain⟨rfl,rfl⟩:=hc
    have hf:=hev f
    rw[hfn] at hf
    generalize hv:a.eval f=fv at hf
    cases hf with
    | fn _ _ _ vs us l1 l2 r1 r2 =>
      have hrel:RelL w β hp (first++c.args.toList.map ev++cap) (vs++c.args.map a.eval++us):=Qa8 (Qa8 ⟨l1,r1⟩ (Qey hev c.args)) ⟨l2,r2⟩
      rcases hcalls.run w β (vs++c.args.map a.eval++us) hh (by simpa using hrel) with⟨fn,h1,h2,h3,h4⟩ | ⟨fn,v,w',h1,h2,h3,v',r,h',β',e,k1,k2,k3,k4⟩
      ·have hrun:(execOp a.eval o).run P w = .ok (.enter g' (vs ++ c.args.map a.eval ++ us)) w:=by
        simp[execOp,hop,resolve,hcal,hv,Deferred.ofValue,invoke,Qbo h1 h2 h3]
       refine⟨fun _ _=>trivial,?_⟩
       rw[Oper.semAt_plain _ _ _ hnd,hrun,Oper.uponIn_enter]
       refine⟨fun h=>by simp[Fence.wide] at h,CallsIn.mono (F:=wd rd) (callsIn_wide.2 h4) ?_⟩
       rintro e w' ⟨v,r,h',β',rfl,k1,k2,k3,k4⟩
       exact hn v r h' β' w' k1 k2 k3 k4
      ·have hrun:(execOp a.eval o).run P w = .ok (.value v) w':=by
        rw[Array.append_assoc] at h3
        simp[execOp,hop,resolve,hcal,hv,Deferred.ofValue,invoke,h3]
       cases e
       refine⟨fun _ _=>trivial,?_⟩
       rw[Oper.semAt_plain _ _ _ hnd,hrun]
       exact hn v r h' β' w' k1 k2 k3 k4
   ·simp at hc
  ·simp at hc
 ·simp at hc
def Qdd{rd:Option Nat}{n:Nat}{hp hp':Qa}{o:Oper}{d:DV}(hnd:∀ c,o.op≠.defer c)(h:Qml P w β hp (execOp a.eval o) d hp'){next:Act->World->Prop}{Q:Exit->Act->World->Prop}(hn:∀ v w' β',Evo w β hp w' β' hp'->HeapRel w' β' hp'->RelD w' β' hp' d v->next (a.put o.dst v) w'):o.wpIn (wd rd) n P a w next Q:=by
 obtain⟨v,w',β',h1,h2,h3,h4⟩:=h
 refine⟨fun _ _=>trivial,?_⟩
 rw[Oper.semAt_plain _ _ _ hnd]
 rcases h1 with h1 | ⟨h1,rfl⟩
 ·rw[h1]; exact hn v w' β' h2 h3 h4
 ·rw[h1]; exact hn undef w' β' h2 h3 h4
def QaJ {rd:Option Nat} {n:Nat} {ops:Array Oper} {Q:Exit->Act->World->Prop} {K:St->Prop} {tail:List Nat} {T:Act->Prop} (hT:∀ o ∈ ops.toList,∀ (a:Act) (v:Value),T a->T (a.put o.dst v)) (hK:∀ β S a w,Sim O β S a w->T a->K S->wpOpsIn (wd rd) n P ops Q tail a w):∀ (rest:List Oper) (pre post:List Oper),ops.toList = pre ++ rest ++ post->∀ (β:Map) (S:St) (a:Act) (w:World),Sim O β S a w->T a->Qah P ops.toList rest K S ->
 wpOpsIn (wd rd) n P ops Q (J2 pre.length rest.length++tail) a w
 | [],pre,post,_,β,S,a,w,hs,ht,h=>by
   simp only[Je,K6,K9]
   exact hK β S a w hs ht h
 | o :: r,pre,post,hops,β,S,a,w,hs,ht,h=>by
   have hT0:=hT o (by rw[hops]; simp)
   have hidx:ops[pre.length]?=some o:=by
    have:ops.toList[pre.length]?=some o:=by rw[hops]; simp
    simpa using this
   have ih:=fun β S a w=>QaJ (P:=P) (rd:=rd) (n:=n) (O:=O) hT hK r (pre++[o]) post (by rw[hops]; simp) β S a w
   simp only[Jg,KP] at ih
   simp only[Jd,K7,Kt,wpOpsIn,hidx]
   unfold Qah at h
   obtain⟨hf,h⟩:=h
   split at h
   ·exact h.elim
   ·rename_i hg
    rw[QJ (ops:=ops) hs hg,if_neg (by simp)]
    exact⟨fun _ _=>trivial,ih β _ _ _ (hs.skip (.tup [] #[] rfl (by simp)) hf) (hT0 a _ ht) h⟩
   ·rename_i hg
    rw[QJ (ops:=ops) hs hg,if_pos rfl]
    have hev:∀ x,RelD w β S.hp (Qn true (S.ev x)) (a.eval x):=fun x=>Qam (hs.ev x) rfl
    split at h
    ·rename_i g args hc
     refine Qi2 hev hc hs.heap h (fun v r h' β' w' k1 k2 k3 k4=>?_)
     exact ih β' _ _ _ (hs.step k1 k2 (Qat k3) hf) (hT0 a _ ht) k4
    ·split at h
     ·rename_i d hp' hv
      refine Qdd (Qc3 hv) (QaU hs.heap hev (fun _=>rfl) hv) (fun v w' β' k1 k2 k3=>?_)
      exact ih β' _ _ _ (hs.step k1 k2 (Qat k3) hf) (hT0 a _ ht) h
     ·exact h.elim
def QgA{rd:Option Nat}{n:Nat}{ops:Array Oper}{Q:Exit->Act->World->Prop}{K:St->Prop}(hK:∀ β S a w,Sim O β S a w->K S->Q .normal a w)(β:Map)(S:St)(a:Act)(w:World)(hs:Sim O β S a w)(h:Qah P ops.toList ops.toList K S):
 wpOpsIn (wd rd) n P ops Q (JC ops.size) a w:=by
 have:=QaJ (P:=P) (rd:=rd) (n:=n) (O:=O) (ops:=ops) (Q:=Q) (K:=K) (tail:=[]) (T:=fun _=>True) (fun _ _ _ _ _=>trivial) (fun β S a w hs _ hk=>hK β S a w hs hk) ops.toList [] [] (by simp) β S a w hs trivial h
 simpa [J7] using this
def QaF:Code->Bool
 | .skip | .exit _ | .ret=>true
 | .region _ _ d=>!d
 | .seq a b | .cond _ a b=>QaF a&&QaF b
 | .block _ c=>QaF c
 | _=>false
def Q3 {rd:Option Nat} {n:Nat}:∀ (c:Code) (Q:Exit->St->Prop) (S:St),QaF c = true->Qx P c Q S->∀ (O:Org) (β:Map) (a:Act) (w:World),Sim O β S a w->c.wpIn (wd rd) n P (QlC O Q) a w
 | .skip,Q,S,_,h=>fun O β a w hs=>wpIn_skip ⟨β,S,hs,h⟩
 | .region id ops draw,Q,S,hp,h=>fun O β a w hs=>by
   unfold Qx at h
   have hd:draw=false:=by simpa [QaF] using hp
   subst hd
   simp only[Kc,if_false] at h
   have:=QgA (P:=P) (rd:=rd) (n:=n) (O:=O) (ops:=ops) (Q:=QlC O Q) (K:=Q .normal) (fun β S a w hs hk=>⟨β,S,hs,hk⟩) β S a w hs h
   exact wpIn_region this
 | .seq x y,Q,S,hp,h=>fun O β a w hs=>by
   unfold Qx at h
   simp only[QaF,Jr] at hp
   have h1:=Q3 (rd:=rd) (n:=n) x _ S hp.1 h O β a w hs
   refine wpIn_seq (wpIn_mono h1 fun e a' w' hq=>?_)
   obtain⟨β',S',hs',hq⟩:=hq
   cases e with
   | normal=>exact Q3 y Q S' hp.2 hq O β' a' w' hs'
   | _=>exact⟨β',S',hs',hq⟩
 | .cond c x y,Q,S,hp,h=>fun O β a w hs=>by
   unfold Qx at h
   simp only[QaF,Jr] at hp
   split at h
   ·rename_i t ht
    have hc:=hs.ev c
    rw[ht] at hc
    refine wpIn_cond_split (Qj hc) (fun e=>?_) (fun e=>?_)
    ·exact Q3 x Q S hp.1 (h.1 e) O β a w hs
    ·exact Q3 y Q S hp.2 (h.2 e) O β a w hs
   ·exact h.elim
 | .block id c,Q,S,hp,h=>fun O β a w hs=>by
   unfold Qx at h
   have h1:=Q3 (rd:=rd) (n:=n) c _ S (by simpa [QaF] using hp) h O β a w hs
   refine wpIn_block (wpIn_mono h1 fun e a' w' hq=>?_)
   obtain⟨β',S',hs',hq⟩:=hq
   cases e with
   | exit id' =>
     simp only[QaD] at hq
     simp only[Exit.inBlock]
     split
     ·rename_i he; rw[if_pos he] at hq; exact⟨β',S',hs',hq⟩
     ·rename_i he; rw[if_neg he] at hq; exact⟨β',S',hs',hq⟩
   | _=>exact⟨β',S',hs',hq⟩
 | .exit id,Q,S,_,h=>fun O β a w hs=>wpIn_exit ⟨β,S,hs,h⟩
 | .ret,Q,S,_,h=>fun O β a w hs=>wpIn_ret ⟨β,S,hs,h⟩
 | .loop _,_,_,hp,_=>by simp[QaF] at hp
 | .rangeFunc ..,_,_,hp,_=>by simp[QaF] at hp
 | .scope _,_,_,hp,_=>by simp[QaF] at hp
 | .label _,_,_,hp,_=>by simp[QaF] at hp
 | .goto _,_,_,hp,_=>by simp[QaF] at hp
 | .refuse _,_,_,hp,_=>by simp[QaF] at hp
end Go.V
namespace Go.V
section
variable {P:Program} {ops:Array Oper} {T:Nat->St} {F:Nat->List Nat×Bool} {rd:Option Nat} {n:Nat}
theorem QfV (h:Steps P ops T F) (hK:∀ β a w,Sim O β (T ops.size) a w->Q .normal a w):∀ (fuel:Nat) (listed:Array Bool) (a:Act) (w:World) (β:Map) (S:St),
 (JC ops.size).countP (fun i=>!listed.getD i false)<=fuel->Sim O β S a w->Inv O ops T F listed S->wpAnyIn (wd rd) n P .any ops Q fuel listed a w:=by
 have done : ∀ (listed:Array Bool) (a:Act) (w:World) (β:Map) (S:St),Region.ready .any ops listed = []->Sim O β S a w->Inv O ops T F listed S->Q .normal a w:=by
  intro listed a w β S hready hs hi
  have all:∀ i,i < ops.size->listed.getD i false = true:=by
   intro i
   induction i using KB with
   | _ i ih =>
     intro hlt
     cases hl:listed.getD i false with
     | true=>rfl
     | false =>
       have ho:ops[i]?=some ops[i]:=JE hlt
       have hmem:i∈Region.ready .any ops listed:=by
        rw[mem_ready]
        refine⟨?_,ops[i],ho,fun e he hb=>ih e.on ((Qbb h.ok ho).1 e he hb) (KQ ((Qbb h.ok ho).1 e he hb) hlt)⟩
        have hsz:i<listed.size:=by rw[hi.size]; exact hlt
        simpa [hsz] using hl
       rw[hready] at hmem
       cases hmem
  obtain⟨f1,f2,f3⟩:=Qcp h ops.size (Jl _)
  have lt_of:∀ i t,wT ops i t->i<ops.size:=fun i t ⟨o,ho,_⟩=>(Ja.1 ho).1
  refine hK β a w (Qy6 (S:=S) (hi.nt.trans f1.symm) (hi.base.trans f2.symm) ?_ hs (fun t=>?_))
  ·apply Kl
   intro k
   obtain⟨m,hm,e,_,h2⟩:=hi.hp k
   rw[e]
   exact(QeO h ops.size hm (Jl _) (fun i h3 h4 hw=>by have:=h2 i h3 h4 hw; rw[all i h4] at this; cases this)).symm
  ·obtain ⟨m,hm,e,_,h2⟩:=hi.tm t
   rw[e]
   exact(Qeo h ops.size hm (Jl _) (fun i h3 h4 hw=>by have:=h2 i h3 hw; rw[all i h4] at this; cases this)).symm
 intro fuel
 induction fuel with
 | zero =>
   intro listed a w β S hc hs hi
   have hready:Region.ready .any ops listed=[]:=by
    apply Ka.2
    intro j hj
    obtain⟨h0,o,ho,_⟩:=mem_ready.1 hj
    have hlt:j<ops.size:=(Ja.1 ho).1
    have:0<(JC ops.size).countP (fun i=>!listed.getD i false):=by
     rw[List.countP_pos_iff]
     refine⟨j,JT.2 hlt,?_⟩
     have hsz:j<listed.size:=by rw[hi.size]; exact hlt
     simp[hsz] at h0 |-
     exact h0
    omega
   exact⟨hready,done listed a w β S hready hs hi⟩
 | succ fuel ih =>
   intro listed a w β S hc hs hi
   refine⟨fun hready=>done listed a w β S hready hs hi,fun j hj=>?_⟩
   obtain⟨h0,oj,hoj,hr⟩:=mem_ready.1 hj
   have hlt:j<ops.size:=(Ja.1 hoj).1
   have hsz:j<listed.size:=by rw[hi.size]; exact hlt
   have hun:listed.getD j false=false:=by simp[hsz] at h0 |-; exact h0
   obtain⟨o',ho',hstep,_⟩:=h.step j hlt
   rw[hoj] at ho'
   simp at ho'
   subst ho'
   have htm:∀ t∈oj.looksAt ops,V.look S.tm t=V.look (T j).tm t:=fun t ht=>(QtH h hi hoj hun hr (.inl ht)).1
   have heff:=Qer hstep
   obtain⟨hf,G,hg,hcase⟩:=hstep
   obtain⟨f1,f2,f3⟩:=Qcp h j (by omega)
   have hf':S.fits oj.dst=true:=by
    unfold St.fits at hf |-
    rw[hi.nt,<- f1]; exact hf
   have hg':QC ops.toList S oj=some G:=by rw[Qbh htm]; exact hg
   have hw:=QJ (ops:=ops) hs hg'
   have hevS:∀ x∈oj.op.operands.toList,Qn G (S.ev x)=Qn G ((T j).ev x):=fun x hx=>by rw[Qih htm x hx]
   have hev:G=true->∀ x,RelD w β S.hp (Qn G (S.ev x)) (a.eval x):=fun hG x=>Qam (hs.ev x) hG
   have hcnt:(JC ops.size).countP (fun i=>!(listed.setIfInBounds j true).getD i false)<=fuel:=by
    have:(JC ops.size).countP (fun i=>!(listed.setIfInBounds j true).getD i false)<(JC ops.size).countP (fun i=>!listed.getD i false):=by
     refine QeZ (JT.2 hlt) (by rw[hun]; rfl) (by simp[hsz]) (fun i hp=>?_)
     by_cases hij:i=j
     ·rw[hij,hun]; rfl
     ·rw[getD_set_ne false (Ne.symm hij)] at hp; exact hp
    omega
   unfold wpOpIn
   simp only[hoj,hw]
   -- what stands QR this operation
   have next:∀ (β1:Map) (a1:Act) (w1:World) (S1:St),Sim O β1 S1 a1 w1->S1.nt=S.nt->S1.base=S.base->S1.hp.length=S.hp.length->(∀ t,oj.dst≠some t->V.look S1.tm t=V.look S.tm t)->(∀ t,oj.dst=some t->V.look S1.tm t=V.look (T (j+1)).tm t) ->
    (∀ k,¬ wB F j k->S1.hp[k]?=S.hp[k]?)->(∀ k,wB F j k->S1.hp[k]?=(T (j+1)).hp[k]?)->wpAnyIn (wd rd) n P .any ops Q fuel (listed.setIfInBounds j true) a1 w1:=
    fun β1 a1 w1 S1 k0 k1 k2 k3 k4 k5 k6 k7=>ih _ a1 w1 β1 S1 hcnt k0 (Qj1 h hi hoj hun hr k1 k2 k3 k4 k5 k6 k7)
   have putlook:∀ (S0:St) (d:DV) t,oj.dst=some t->V.look (S0.put oj.dst d).tm t=d:=fun S0 d t ht=>by rw[ht]; simp[St.put,V.look]
   rcases hcase with⟨g,args,d,hc,hcalls,ha,hd,hT,hF⟩ | ⟨d,hp',hc,hv,hk,hT,hF⟩ | ⟨rfl,hT,hF⟩
   ·have nb:∀ k,¬ wB F j k:=fun k hk=>by have:=hk.1; rw [hF] at this; cases this
    have fin:∀ (β1:Map) (a1:Act) (w1:World),Sim O β1 (S.put oj.dst (QcI oj.guard G d)) a1 w1->wpAnyIn (wd rd) n P .any ops Q fuel (listed.setIfInBounds j true) a1 w1:=fun β1 a1 w1 k0=>
     next β1 a1 w1 _ k0 (St.put_nt ..) (St.put_base ..) (by rw[St.put_hp]) (fun t ht=>St.put_look _ _ _ t ht) (fun t ht=>by rw[hT,putlook _ _ t ht,putlook _ _ t ht]) (fun k _=>by rw[St.put_hp]) (fun k hk=>absurd hk (nb k))
    cases hG:G with
    | true =>
      subst hG
      rw[if_pos rfl]
      have hc':Qm (fun x=>Qn true (S.ev x)) oj.op=some (g,args):=by rw[QhD hevS]; exact hc
      refine(Qi2 (hev rfl) hc' hs.heap ((VCalls.pure ((hcalls rfl).mono fun r h' ⟨e1,e2⟩=>⟨e1,by rw[e2]; exact hd,e2⟩) ha).mono fun r h' hh=>hh) (fun v r h' β' w' k1 k2 k3 k4=>?_))
      obtain⟨rfl,rfl⟩:=k4
      refine fin β' _ _ (hs.step k1 k2 (d:=QcI oj.guard true r) ?_ hf')
      cases oj.guard with
      | none=>exact k3
      | some _=>exact .opt true r v (fun _=>k3) (by simp)
    | false =>
      subst hG
      rw[if_neg (by simp)]
      refine⟨fun _ _=>trivial,?_⟩
      refine fin β _ _ (hs.skip (d:=QcI oj.guard false d) ?_ hf')
      cases hgd:oj.guard with
      | none=>simp[QC,hgd] at hg
      | some _=>exact .opt false d undef (by simp) (fun _=>rfl)
   ·have hfoot:∀ k ∈ (Qb9 (fun x=>Qn G ((T j).ev x)) oj.op).1,S.hp[k]? = (T j).hp[k]?:=fun k hk'=>by
     rw[<- hF] at hk'
     exact(QlM h hi hoj hun hr hk').1
    have hcong:vop P (fun x=>Qn G (S.ev x)) S.hp oj.op=vop P (fun x=>Qn G ((T j).ev x)) S.hp oj.op:=QgD hk hevS
    cases hG:G with
    | true =>
      subst hG
      rw[if_pos rfl]
      simp only[cond_true] at hT
      have hdr:∀ {β':Map} {h':Qa} {w':World} {v:Value},RelD w' β' h' d v->RelD w' β' h' (QcI oj.guard true d) v:=fun {β' h' w' v} k3=>by
       cases oj.guard with
       | none=>exact k3
       | some _=>exact .opt true d v (fun _=>k3) (by simp)
      rcases QcS (hp':=S.hp) hk hfoot hv with⟨w0,e1,e2⟩ | ⟨w1,k0,cs,e0,e1,e2⟩
      ·rw [<- hcong] at e2
       subst e1
       have nb:∀ k,¬ wB F j k:=fun k hk=>by have:=hk.1; rw[hF,w0] at this; cases this
       refine(Qdd (Qc3 e2) (QaU hs.heap (hev rfl) (fun _=>rfl) e2) (fun v w' β' k1 k2 k3=>?_))
       exact next β' _ _ _ (hs.step k1 k2 (hdr k3) hf') (St.put_nt ..) (St.put_base ..) (by rw[St.put_hp]) (fun t ht=>St.put_look _ _ _ t ht) (fun t ht=>by rw[hT,putlook _ _ t ht,putlook _ _ t ht])
        (fun k _=>by rw[St.put_hp]) (fun k hk=>absurd hk (nb k))
      ·rw [<- hcong] at e2
       subst e1
       refine(Qdd (Qc3 e2) (QaU hs.heap (hev rfl) (fun _=>rfl) e2) (fun v w' β' k1 k2 k3=>?_))
       have hwk:∀ k,wB F j k ↔ k=k0:=fun k=>by unfold wB; rw[hF,w1,e0]; simp
       refine next β' _ _ _ (hs.step k1 k2 (hdr k3) hf') (St.put_nt ..) (St.put_base ..) (by rw[St.put_hp]; show(Qq S.hp k0 cs).length=_; unfold Qq; split<;>simp) (fun t ht=>St.put_look _ _ _ t ht) (fun t ht=>by rw[hT,putlook _ _ t ht,putlook _ _ t ht]) (fun k hk=>?_) (fun k hk=>?_)
       ·rw [St.put_hp]
        show(Qq S.hp k0 cs)[k]?=_
        have hne:k0≠k:=fun he=>hk ((hwk k).2 he.symm)
        unfold Qq
        split
        ·rw[Kf hne]
        ·rfl
       ·rw [(hwk k).1 hk,hT,St.put_hp,St.put_hp]
        show(Qq S.hp k0 cs)[k0]?=(Qq (T j).hp k0 cs)[k0]?
        have hsame:S.hp[k0]?=(T j).hp[k0]?:=hfoot k0 (by rw[e0]; simp)
        unfold Qq
        rw[hsame]
        cases hB:(T j).hp[k0]? with
        | none=>simp only; rw[hsame]
        | some B =>
          have l1:k0<(T j).hp.length:=(Jc.1 hB).1
          have l2:k0<S.hp.length:=(Jc.1 (hsame.trans hB)).1
          simp only
          rw[Kj l1,Kj l2]
    | false =>
      subst hG
      rw[if_neg (by simp)]
      refine⟨fun _ _=>trivial,?_⟩
      simp only[cond_false] at hT
      refine next β _ _ (S.put oj.dst (QcI oj.guard false d)) (hs.skip (d:=QcI oj.guard false d) ?_ hf') (St.put_nt ..) (St.put_base ..) (by rw[St.put_hp]) (fun t ht=>St.put_look _ _ _ t ht) (fun t ht=>by rw[hT,putlook _ _ t ht,putlook _ _ t ht]) (fun k _=>by rw[St.put_hp]) (fun k hk=>?_)
      ·cases hgd:oj.guard with
       | none=>simp[QC,hgd] at hg
       | some _=>exact .opt false d undef (by simp) (fun _=>rfl)
      ·rw [hT,St.put_hp,St.put_hp]
       exact(QlM h hi hoj hun hr hk.2).1
   ·have nb:∀ k,¬ wB F j k:=fun k hk=>by have:=hk.1; rw [hF] at this; cases this
    rw[if_neg (by simp)]
    refine⟨fun _ _=>trivial,?_⟩
    exact next β _ _ _ (hs.skip (.tup [] #[] rfl (by simp)) hf') (St.put_nt ..) (St.put_base ..) (by rw[St.put_hp]) (fun t ht=>St.put_look _ _ _ t ht) (fun t ht=>by rw[hT,putlook _ _ t ht,putlook _ _ t ht]) (fun k _=>by rw[St.put_hp]) (fun k hk=>absurd hk (nb k))
end
def Qyv {rd:Option Nat} {n:Nat} {id:Nat} {ops:Array Oper} {Q:Exit->St->Prop} (hm:P.follows .mixedOrders = true) (hB:QdU ops = true) (h:vdr P ops.toList ops.toList [] (Q .normal) S):∀ (O:Org) (β:Map) (a:Act) (w:World),Sim O β S a w->(Code.region id ops true).wpIn (wd rd) n P (QlC O Q) a w:=by
 intro O β a w hs
 obtain⟨T,F,_,h2,h3,h4⟩:=QcU ops.toList [] [] S rfl rfl h
 simp only[Je] at h2
 have hsteps:Steps P ops T F:=⟨fun j hj=>by
  obtain⟨o,e1,e2,e3⟩:=h4 j (JG _) (by simpa using hj)
  exact⟨o,by simpa using e1,e2,e3⟩,hB⟩
 have hs':Sim O β (T 0) a { w with drawn:=w.drawn+1 }:=by
  rw[h2]
  have e:Evo w β S.hp w.drew β S.hp:=Qbg w β S.hp
  exact⟨hs.defers,hs.size,fun t=>(hs.tm t).mono e,hs.heap.drew,hs.evo.trans e,hs.base⟩
 refine wpIn_region_any hm (QfV (O:=O) (Q:=QlC O Q) hsteps (fun β a w hk=>⟨β,_,hk,by simpa using h3⟩) ops.size (Jp ops.size false) a _ β (T 0) ?_ hs' ?_)
 ·have:=Ko (p:=fun i=>!(Jp ops.size false).getD i false) (l:=JC ops.size)
  simpa using this
 ·have hfalse:∀ i,(Jp ops.size false).getD i false = false:=fun i=>by
   by_cases hi:i<ops.size
   ·simp[hi]
   ·simp[hi]
  refine⟨by simp,rfl,rfl,rfl,fun i o _ hl=>?_,fun t=>⟨0,JG _,rfl,fun i hi=>absurd hi (Kh _),fun i _ _=>hfalse i⟩,fun k=>⟨0,JG _,rfl,fun i hi=>absurd hi (Kh _),fun i _ _ _=>hfalse i⟩⟩
  rw[hfalse] at hl
  cases hl
inductive CutD (K:Nat) (ops0:Array Oper):Code->Code->Prop
 | skip:CutD K ops0 .skip .skip
 | exit (id:Nat) (h:(id==K)=false):CutD K ops0 (.exit id) (.exit id)
 | ret:CutD K ops0 .ret .ret
 | region (id:Nat) (ops:Array Oper):CutD K ops0 (.region id ops false) (.region id ops false)
 | draw (id:Nat):CutD K ops0 (.seq (.region id ops0 true) .ret) (.exit K)
 | seq {a a' b b':Code} (h:CutD K ops0 a a') (h':CutD K ops0 b b'):CutD K ops0 (.seq a b) (.seq a' b')
 | cond (c:Operand) {a a' b b':Code} (h:CutD K ops0 a a') (h':CutD K ops0 b b'):CutD K ops0 (.cond c a b) (.cond c a' b')
 | block (id:Nat) (hid:(id==K)=false) {a a':Code} (h:CutD K ops0 a a'):CutD K ops0 (.block id a) (.block id a')
def Qkz {rd:Option Nat} {n K:Nat} {ops0:Array Oper} (hm:P.follows .mixedOrders = true) (hB:QdU ops0 = true) {c c':Code} (hc:CutD K ops0 c c'):∀ (Q' Q:Exit->St->Prop),(∀ S,Q' (.exit K) S->vdr P ops0.toList ops0.toList [] (Q .ret) S)->(∀ e S,e ≠ .exit K->Q' e S->Q e S) ->
 ∀ (S:St),Qx P c' Q' S->∀ (O:Org) (β:Map) (a:Act) (w:World),Sim O β S a w->c.wpIn (wd rd) n P (QlC O Q) a w:=by
 induction hc with
 | skip=>intro Q' Q hK hQ S h O β a w hs; exact wpIn_skip ⟨β,S,hs,hQ _ _ (by simp) h⟩
 | exit id hid=>intro Q' Q hK hQ S h O β a w hs; exact wpIn_exit ⟨β,S,hs,hQ _ _ (by simpa using hid) h⟩
 | ret=>intro Q' Q hK hQ S h O β a w hs; exact wpIn_ret ⟨β,S,hs,hQ _ _ (by simp) h⟩
 | region id ops =>
   intro Q' Q hK hQ S h O β a w hs
   unfold Qx at h
   simp only[Kc,if_false] at h
   exact wpIn_region (QgA (P:=P) (rd:=rd) (n:=n) (O:=O) (ops:=ops) (Q:=QlC O Q) (K:=Q' .normal) (fun β S a w hs hk=>⟨β,S,hs,hQ _ _ (by simp) hk⟩) β S a w hs h)
 | draw id =>
   intro Q' Q hK hQ S h O β a w hs
   refine wpIn_seq (wpIn_mono (Qyv (Q:=fun e S=>e=.normal/\Q .ret S) hm hB ?_ O β a w hs) ?_)
   ·have:=hK S h
    have e:(fun S=>Exit.normal=Exit.normal/\Q Exit.ret S)=Q .ret:=by funext S; simp
    rw[e]; exact this
   ·rintro e a' w' ⟨β',S',hs',rfl,q⟩
    exact wpIn_ret ⟨β',S',hs',q⟩
 | seq h h' ih ih' =>
   rename_i x x' y y'
   intro Q' Q hK hQ S hv O β a w hs
   unfold Qx at hv
   refine wpIn_seq (wpIn_mono (ih (Qad Q' (Qx P y' Q')) (Qad Q (Qx P y' Q')) hK (fun e S he hq=>?_) S hv O β a w hs) fun e a' w' hq=>?_)
   ·cases e with
    | normal=>exact hq
    | _=>exact hQ _ _ he hq
   ·obtain ⟨β',S',hs',hq⟩:=hq
    cases e with
    | normal=>exact ih' Q' Q hK hQ S' hq O β' a' w' hs'
    | _=>exact⟨β',S',hs',hq⟩
 | cond c h h' ih ih' =>
   intro Q' Q hK hQ S hv O β a w hs
   unfold Qx at hv
   split at hv
   ·rename_i t ht
    have hc:=hs.ev c
    rw[ht] at hc
    refine wpIn_cond_split (Qj hc) (fun e=>?_) (fun e=>?_)
    ·exact ih Q' Q hK hQ S (hv.1 e) O β a w hs
    ·exact ih' Q' Q hK hQ S (hv.2 e) O β a w hs
   ·exact hv.elim
 | block id hid h ih =>
   intro Q' Q hK hQ S hv O β a w hs
   unfold Qx at hv
   have hne:K≠id:=fun e=>by subst e; simp at hid
   refine wpIn_block (wpIn_mono (ih (QaD id Q') (QaD id Q) (fun S hq=>?_) (fun e S he hq=>?_) S hv O β a w hs) fun e a' w' hq=>?_)
   ·simp only [QaD,if_neg hne] at hq
    exact hK S hq
   ·cases e with
    | exit id' =>
      simp only[QaD] at hq |-
      split
      ·rename_i he'; rw[if_pos he'] at hq; exact hQ _ _ (by simp) hq
      ·rename_i he'; rw[if_neg he'] at hq; exact hQ _ _ he hq
    | _=>exact hQ _ _ (by simp) hq
   ·obtain ⟨β',S',hs',hq⟩:=hq
    cases e with
    | exit id' =>
      simp only[QaD] at hq
      simp only[Exit.inBlock]
      split
      ·rename_i he; rw[if_pos he] at hq; exact⟨β',S',hs',hq⟩
      ·rename_i he; rw[if_neg he] at hq; exact⟨β',S',hs',hq⟩
    | _=>exact⟨β',S',hs',hq⟩
end Go.V
namespace Go.V
open Go.RowKit (Below)
structure Up(w w':World):Prop where
 size:w.heap.size<=w'.heap.size
 same:∀ (b:Nat) (C:Array Value) (T:TypeId) (m:Nat×Nat),w.heap[b]?=some (.cells C T m)->w'.heap[b]?=some (.cells C T m)
def Up.cell(u:Up w w')(h:w.cell? a=some v):w'.cell? a=some v:=by
 obtain⟨o,ho,hc⟩:=cells_of_cell h
 cases o with
 | cells C T m=>exact(World.cell?_of_block (by rw[u.same _ _ _ _ ho,ho])).trans h
 | _=>simp[Obj.isCells] at hc
def RelP.up (h:RelP w im p v) (u:Up w w'):RelP w' im p v:=by
 induction h with
 | lit v h=>exact .lit v h
 | str l=>exact .str l
 | sl xs a cap sz val h1 h2 h3 h4 h5 _ ih =>
   refine .sl xs a cap sz val h1 h2 h3 h4 (fun i j c d hc hd=>?_) (fun i j c d hc hd=>ih i j c d hc hd)
   obtain⟨ad,e,hb,hn,hcell⟩:=h5 i j c d hc hd
   exact⟨ad,e,Jk hb u.size,hn,u.cell hcell⟩
 | slc xs a sz val h2 h3 h4 h5 _ ih =>
   refine .slc xs a sz val h2 h3 h4 (fun i j c d hc hd=>?_) (fun i j c d hc hd=>ih i j c d hc hd)
   obtain⟨ad,e,hb,hn,hcell⟩:=h5 i j c d hc hd
   exact⟨ad,e,Jk hb u.size,hn,u.cell hcell⟩
def RelD.up (h:RelD w β hp d v) (u:Up w w'):RelD w' β hp d v:=by
 induction h with
 | pv p v h=>exact .pv p v (h.up u)
 | ptr k off b h hb=>exact .ptr k off b h hb
 | own k sz off len cap b C T m h hb h1 h2 h3 h4=>exact .own k sz off len cap b C T m h hb h1 h2 (u.same _ _ _ _ h3) h4
 | ownc k sz off len cap b o C T m h hb h1 h2 h3 h4 h5=>exact .ownc k sz off len cap b o C T m h hb h1 h2 (u.same _ _ _ _ h3) h4 h5
 | own0 k sz a h hb ha=>exact .own0 k sz a h hb ha
 | ip cs ad val h1 h2 h3 =>
   exact .ip cs ad val h1 (fun j d hd=>⟨Jk (h2 j d hd).1 u.size,(h2 j d hd).2.1,u.cell (h2 j d hd).2.2⟩) (fun j d hd=>(h3 j d hd).up u)
 | agg ds vs h _ ih=>exact .agg ds vs h ih
 | fn f ds es vs us h h' _ _ ih ih'=>exact .fn f ds es vs us h h' ih ih'
 | tup ds vs h _ ih=>exact .tup ds vs h ih
 | opt c d v _ hf ih=>exact .opt c d v ih hf
 | any v=>exact .any v
def HeapRel.up(h:HeapRel w β hp)(u:Up w w'):HeapRel w' β hp:=by
 refine⟨fun k B b hk hl hb=>?_,h.none,h.inj,h.avoid,fun b hb=>Jk (h.bound b hb) u.size⟩
 obtain⟨C,c1,c2,c3⟩:=h.blk k B b hk hl hb
 exact⟨C,u.same _ _ _ _ c1,c2,fun i d hd=>⟨(c3 i d hd).1,(c3 i d hd).2.up u⟩⟩
def Up.grown(hg:w.grownBy w' row)(hr:∀ r,row=some r->∃ o:Obj,w.heap[r]?=some o/\o.isCells=false):Up w w':=by
 refine⟨hg.size,fun b C T m hb=>?_⟩
 rw[grownBy_keeps_cells hg hr hb rfl]; exact hb
def Evo.grown(e:Evo w β hp W β' hp')(hg:W.grownBy W' row)(hr:∀ r,row=some r->w.heap.size<=r/\∃ o:Obj,W.heap[r]?=some o/\o.isCells=false):Evo w β hp W' β' hp':=by
 have u:=Up.grown hg (fun r h=>(hr r h).2)
 refine⟨hg.os.trans e.os,hg.tape.trans e.tape,hg.output.trans e.output,Kd e.size hg.size,e.len,e.beta,fun b hb hl=>?_,fun b C T m hb=>?_,e.im,e.X⟩
 ·rw [hg.block b (Jk hb e.size) (fun h=>by have:=(hr b h.symm).1; omega)]
  exact e.same b hb hl
 ·obtain ⟨C',m',h1,h2⟩:=e.shape b C T m hb
  exact⟨C',m',u.same _ _ _ _ h1,h2⟩
def Evo.others(hh:HeapRel w β hp)(e:Evo w β hp W β' hp'):KeepsOthers w W:=by
 refine⟨e.size,fun k o hk ho=>?_⟩
 rw[e.same k (Ja.1 hk).1 ?_]
 ·exact hk
 rintro⟨j,B,h1,h2,h3⟩
 obtain⟨C,c1,_⟩:=hh.blk j B k h1 h2 h3
 rw[hk] at c1
 cases c1
 cases ho
def Qg5{hp0 hp:Qa}(h:hp.take hp0.length=hp0){k:Nat}{B:Blk}(hk:hp0[k]?=some B):hp[k]?=some B:=by
 rw[<- h,List.getElem?_take] at hk
 split at hk
 ·exact hk
 ·cases hk
def HeapRel.pre(hh:HeapRel w β hp)(h:hp.take hp0.length=hp0)(hr:∀ (k:Nat) (B:Blk),hp0[k]?=some B->DV.refs.go hp0.length B.cells=true):HeapRel w β hp0:=by
 have lv:∀ b,live β hp0 b->live β hp b:=fun b ⟨j,B,h1,h2,h3⟩=>⟨j,B,Qg5 h h1,h2,h3⟩
 refine⟨fun k B b hk hl hb=>?_,fun k B hk=>hh.none k B (Qg5 h hk),fun j k B B' b hj hk=>hh.inj j k B B' b (Qg5 h hj) (Qg5 h hk),fun k B b hk=>hh.avoid k B b (Qg5 h hk),hh.bound⟩
 obtain⟨C,c1,c2,c3⟩:=hh.blk k B b (Qg5 h hk) hl hb
 refine⟨C,c1,c2,fun i d hd=>⟨(c3 i d hd).1,(c3 i d hd).2.drop (DV.refs_go (hr k B hk) i d hd) (fun b hb=>hb.imp id (lv b))⟩⟩
def Evo.pre(e:Evo w β hp0 W β' hp)(hl:hp0.length<=hp1.length)(h:hp.take hp1.length=hp1):Evo w β hp0 W β' hp1:=
 ⟨e.os,e.tape,e.output,e.size,hl,e.beta,e.same,e.shape,fun b hb ⟨j,B,h1,h2,h3⟩=>e.im b hb ⟨j,B,Qg5 h h1,h2,h3⟩,e.X⟩
def Lies(w:World)(β:Map)(hp:Qa)(W:World):Prop:=∃ β1,HeapRel W β1 hp/\Evo w β hp W β1 hp
def Lies.grown(h:Lies w β hp W)(hg:W.grownBy W' row)(hr:∀ r,row=some r->w.heap.size<=r/\∃ o:Obj,W.heap[r]?=some o/\o.isCells=false):Lies w β hp W':=by
 obtain⟨β1,h1,h2⟩:=h
 exact⟨β1,h1.up (Up.grown hg fun r h=>(hr r h).2),h2.grown hg hr⟩
def QHc(w:World)(β:Map)(hp:Qa)(W W':World):Prop:=Lies w β hp W->Lies w β hp W'
def down(n:Nat):List (Fin n):=(List.finRange n).reverse
def QxT(xs:List (List PV))(i:Nat):DV:=.agg ((xs.getD i []).map .pv)
def QEv (P:Program) (gf:Nat) (cap:DV) (hp:Qa) (xs:List (List PV)):Prop :=
 ∀ (w:World) (β:Map) (vcap:Value),HeapRel w β hp->RelD w β hp cap vcap->∃ V:Nat->Value,(∀ i,i < xs.length->RelD w β hp (QxT xs i) (V i)) /\
   SeqStopsK Fence.wide 9 P gf #[vcap] (fun i:Fin xs.length=>#[.int .i64 (i.1:Int),V i.1]) (QHc w β hp) (fun l=>l=down xs.length) (fun l=>l <+: down xs.length) xs.length w
def QcE{t:Array Value}(h:p<t.size):(t.setIfInBounds p v).getD q undef=if p=q then v else t.getD q undef:=by
 by_cases e:p=q
 ·subst e; simp[h]
 ·simp[e,Jq]
def QxZ (a:Act) (w:World) (β:Map) (hp:Qa) (n:Nat) (hit:Nat->Bool) (Rr:Nat->Qa->Prop) (e:Exit) (a':Act) (W:World):Prop :=
 ∃ D,w.heap.size<=D/\W.heap[D]? = some (.deferred (some []))/\a' = { a with defers:={ target:=.collected D,args:=#[] } :: a.defers } /\
   ((e = .normal/\(∀ i,i < n->hit i = false)/\Lies w β hp W) \/
    (e=.ret/\∃ i β1 hp',i<n/\hit i=true/\(∀ j,i<j->j<n->hit j=false)/\HeapRel W β1 hp'/\Evo w β hp W β1 hp'/\Rr i hp'))
def QoO(h:k<(down n).length):((down n)[k]).1+k+1=n:=by
 have hl:(down n).length=n:=by simp[down]
 simp only[down,List.getElem_reverse,List.getElem_finRange,List.length_finRange]
 simp
 omega
def Qm3{n:Nat}{q:List (Fin n)}{i:Fin n}(h:q++[i] <+: down n):∀ j:Fin n,i<j->j∈q:=by
 intro j hij
 have hl:(down n).length=n:=by simp[down]
 have hle:=h.length_le
 rw[Jg,KP,hl] at hle
 have e1:(down n)[q.length]'(by omega)=i:=by
  have:=h.getElem (i:=q.length) (by simp)
  rw[<- this]; simp
 have h1:=QoO (n:=n) (k:=q.length) (by omega)
 rw[e1] at h1
 have hk:n-1-j.1<q.length:=by have:=j.2; omega
 have e2:=h.getElem (i:=n-1-j.1) (by rw[Jg]; omega)
 have h2:=QoO (n:=n) (k:=n-1-j.1) (by omega)
 have e3:(down n)[n-1-j.1]'(by omega)=j:=Fin.ext (by have:=j.2; omega)
 rw[e3,List.getElem_append_left hk] at e2
 exact e2▸List.getElem_mem hk
def BodyOf(P:Program)(body:Code)(B:(Exit->St->Prop)->St->Prop):Prop:=
 ∀ (rd:Option Nat) (n:Nat) (Q:Exit->St->Prop) (S:St),B Q S->∀ (O:Org) (β:Map) (a:Act) (w:World),Sim O β S a w->body.wpIn (wd rd) n P (QlC O Q) a w
def BodyOf.plain(h:QaF body=true):BodyOf P body (Qx P body):=fun _ _ Q S hv O β a w hs=>Q3 body Q S h hv O β a w hs
def QCM(P:Program)(K:Nat)(ops0:Array Oper)(body':Code)(Q:Exit->St->Prop)(S:St):Prop:=
 Qx P body' (fun e S'=>match e with | .exit k=>if k=K then vdr P ops0.toList ops0.toList [] (Q .ret) S' else Q (.exit k) S' | e=>Q e S') S
def BodyOf.cut (hm:P.follows .mixedOrders = true) (hB:QdU ops0 = true) (hc:CutD K ops0 body body'):BodyOf P body (QCM P K ops0 body'):=fun _ _ Q S hv O β a w hs=>
 Qkz hm hB hc _ Q (fun S h=>by simpa using h) (fun e S he h=>by
  cases e with
  | exit k =>
    dsimp only at h
    rw[if_neg (fun e=>he (by rw[e]))] at h
    exact h
  | _=>exact h) S hv O β a w hs
def Ql4(P:Program)(S:St)(assign:Code)(B:(Exit->St->Prop)->St->Prop)(hit:Bool)(Rr:Qa->Prop)(S0:St):Prop :=
 Qx P assign (fun e S1=>e=.normal/\S1.hp.take S.hp.length=S.hp /\
  B (fun e S'=>match e with | .normal=>hit=false/\S'.hp.take S.hp.length=S.hp | .ret=>hit=true/\Rr S'.hp | _=>False) { S1 with base:=S1.hp.length }) S0
def QFe (hs:Sim O β S a w) (hgS:S.ev g = .fn (.func gf) [] [cap]) (hf1:P.funcs[gf]? = some fn) (hf2:(fn.name == "runtime.NumGoroutine") = false) (hf3:fn.body.isNone = false) (hV:QEv P gf cap S.hp xs) (h0:p0 < S.nt) (h1:p1 < S.nt) (hrefs:∀ (k:Nat) (B:Blk),S.hp[k]? = some B->DV.refs.go S.hp.length B.cells = true) (hit:Nat->Bool) (Rr:Nat->Qa->Prop) (hpa:QaF assign = true) (hB:BodyOf P body B) (hbody:∀ i,i < xs.length->Ql4 P S assign B (hit i) (Rr i) ⟨S.nt,S.hp.length,(p1,QxT xs i) :: (p0,.int .i64 i) :: S.tm,S.hp⟩):
 (Code.rangeFunc g #[p0,p1] assign body).wp P (QxZ a w β S.hp xs.length hit Rr) a w:=by
 have hgv:=hs.ev g
 rw[hgS] at hgv
 generalize hv:a.eval g=gv at hgv
 cases hgv with
 | fn _ _ _ vs us l1 l2 r1 r2=>
 have hvs:vs=#[]:=J0 l1.symm
 subst hvs
 obtain⟨vcap,rfl⟩:∃ vcap,us=#[vcap]:=by
  have:us.toList.length=1:=by simpa using l2.symm
  obtain⟨x,hx⟩:=List.length_eq_one_iff.1 this
  exact⟨x,by rw[<- Array.toArray_toList (xs:=us),hx]⟩
 have hcap:RelD w β S.hp cap vcap:=r2 0 cap rfl
 obtain⟨V,hVr,hseq⟩:=hV w β vcap hs.heap hcap
 have hsz:=hs.size
 rw[<- wpIn_wide (n:=10)]
 refine wpIn_rangeFunc_ownH (F:=Fence.wide) (n:=10) rfl (by decide) (gf:=gf) (lb:=#[vcap]) hv trivial (fun args w=>Qbo hf1 hf2 hf3 args w) hseq (fun h k x=>k (h x))
  (fun W l o o' hl ho hc _ hL=>hL.grown (grownBy_putObj' W l o') (fun r e=>by cases e; exact⟨hl,o,ho,hc⟩)) (Below.refl _ _) (fun _=>rfl)
  (fun pre W=>Lies w β S.hp W/\∀ i∈pre,hit i.1=false)
  (fun c pre W=>c=.ret/\∃ (q:List (Fin xs.length)) (i:Fin xs.length) (β1:Map) (hp':Qa),pre=q++[i]/\(∀ j∈q,hit j.1=false)/\hit i.1=true/\HeapRel W β1 hp'/\Evo w β S.hp W β1 hp'/\Rr i.1 hp')
  (fun s A B row h hg hr=>⟨h.1.grown hg hr,h.2⟩)
  (fun c s A B row h hg hr=>by
   obtain⟨hc,q,i,β1,hp',e1,e2,e3,e4,e5,e6⟩:=h
   exact⟨hc,q,i,β1,hp',e1,e2,e3,e4.up (Up.grown hg fun r h=>(hr r h).2),e5.grown hg hr,e6⟩)
  ⟨⟨β,hs.heap,Evo.refl _ _ _⟩,by simp⟩
  (fun i a' W=>∃ (β1:Map) (S1:St),a'.defers = []/\a'.tmps.size = S1.nt/\(∀ t,RelD W β1 S1.hp (look S1.tm t) (a'.tmps.getD t undef))/\HeapRel W β1 S1.hp/\Evo w β S.hp W β1 S1.hp /\
   B (fun e S'=>match e with | .normal=>hit i.1=false/\S'.hp.take S.hp.length=S.hp | .ret=>hit i.1=true/\Rr i.1 S'.hp | _=>False) { S1 with base:=S1.hp.length })
  (fun i a' s A B row h hg hr=>by
   obtain⟨β1,S1,e1,e2,e3,e4,e5,e6⟩:=h
   have u:=Up.grown hg fun r h=>(hr r h).2
   exact⟨β1,S1,e1,e2,fun t=>(e3 t).up u,e4.up u,e5.grown hg hr,e6⟩)
  ?assign ?body ?done ?stop
 case assign=>
  rintro l pre i W K ⟨⟨β1,hh,ev⟩,hpre⟩ hK
  have e1:(Array.zip #[p0,p1] #[Value.int .i64 (i.1:Int),V i.1]).foldl (fun(t:Array Value) (x:Tmp×Value)=>t.setIfInBounds x.1 x.2) a.tmps=(a.tmps.setIfInBounds p0 (.int .i64 (i.1:Int))).setIfInBounds p1 (V i.1):=by simp
  rw[e1]
  have hx:=(hVr i.1 i.2).mono ev
  have hsim:Sim ⟨W,β1,S.hp,[]⟩ β1 ⟨S.nt,S.hp.length,(p1,QxT xs i.1)::(p0,.int .i64 i.1)::S.tm,S.hp⟩ { tmps:=(a.tmps.setIfInBounds p0 (.int .i64 (i.1:Int))).setIfInBounds p1 (V i.1),defers:=[] } W:=by
   refine⟨rfl,by simpa using hsz,fun t=>?_,hh,Evo.refl _ _ _,rfl⟩
   dsimp only
   rw[QcE (by simpa [hsz] using h1),QcE (by simpa [hsz] using h0)]
   simp only[look]
   split
   ·exact hx
   split
   ·exact .pv _ _ (.lit _ rfl)
   ·exact(hs.tm t).mono ev
  refine wpIn_mono (Q3 (rd:=some l) (n:=8) assign _ _ hpa (hbody i.1 i.2) _ _ _ _ hsim) ?_
  rintro e a' W' ⟨β2,S1,hs1,rfl,hq,hc⟩
  have hL:Lies w β S.hp W':=⟨β2,hs1.heap.pre hq hrefs,(ev.trans hs1.evo).pre (Jl _) hq⟩
  exact hK a' W' ((Evo.others hh hs1.evo).from _) (fun _=>hL) ⟨hL,hpre⟩ ⟨β2,S1,hs1.defers,hs1.size,hs1.tm,hs1.heap,ev.trans hs1.evo,hc⟩
 case body=>
  rintro l pre i a' W hl _ ⟨hL0,hpre⟩ ⟨β1,S1,e1,e2,e3,hh,ev,hc⟩ hlen
  have hsim:Sim ⟨W,β1,S1.hp,[]⟩ β1 { S1 with base:=S1.hp.length } a' W:=⟨e1,e2,e3,hh,Evo.refl _ _ _,rfl⟩
  refine wpIn_mono (hB (some l) 8 _ _ hc _ _ _ _ hsim) ?_
  rintro e a'' W' ⟨β2,S',hs',hq⟩
  have hoth:KeepsFrom w.heap.size W W':=(Evo.others hh hs'.evo).from _
  have hev:Evo w β S.hp W' β2 S'.hp:=ev.trans hs'.evo
  cases e with
  | normal =>
    have hL:Lies w β S.hp W':=⟨β2,hs'.heap.pre hq.2 hrefs,hev.pre (Jl _) hq.2⟩
    exact⟨hoth,fun _=>hL,hL,fun j hj=>by
     rcases Kz.1 hj with hj | hj
     ·exact hpre j hj
     ·rw[List.mem_singleton.1 hj]; exact hq.1⟩
  | ret=>exact⟨hoth,rfl,pre,i,β2,S'.hp,rfl,hpre,hq.1,hs'.heap,hev,hq.2⟩
  | _=>exact hq.elim
 case done=>
  rintro D ys W hD rfl ⟨hL,hall⟩ hK
  exact⟨D,hD,hK,rfl,.inl ⟨rfl,fun i hi=>hall ⟨i,hi⟩ (by simp[down]),hL⟩⟩
 case stop=>
  rintro D c pre W hD hSp ⟨rfl,q,i,β1,hp',rfl,e2,e3,e4,e5,e6⟩ hK
  refine wpIn_ret ⟨D,hD,hK,rfl,.inr ⟨rfl,i.1,β1,hp',i.2,e3,fun j hij hj=>?_,e4,e5,e6⟩⟩
  exact e2 ⟨j,hj⟩ (Qm3 hSp ⟨j,hj⟩ hij)
end Go.V
namespace Go.V
structure SimE(O:Org)(β:Map)(S:St)(a:Act)(w:World):Prop where
 size:a.tmps.size=S.nt
 tm:∀ t,RelD w β S.hp (look S.tm t) (a.tmps.getD t undef)
 heap:HeapRel w β S.hp
 evo:Evo O.w O.β O.hp w β S.hp
 mark:a.defers=O.ds\/∃ D,a.defers={ target:=.collected D,args:=#[] }::O.ds/\w.heap[D]?=some (.deferred (some []))/\O.w.heap.size<=D
def St.reb(S:St):St:={ S with base:=S.hp.length }
def SimE.reb(h:SimE O β S a w):Sim ⟨w,β,S.hp,a.defers⟩ β S.reb a w:=⟨rfl,h.size,h.tm,h.heap,Evo.refl _ _ _,rfl⟩
def SimE.on(h:SimE O β S a w)(h':Sim ⟨w,β,S.hp,a.defers⟩ β' S' a' w'):SimE O β' S' a' w':=by
 refine⟨h'.size,h'.tm,h'.heap,h.evo.trans h'.evo,?_⟩
 rw[h'.defers]
 rcases h.mark with e | ⟨D,e,hD,hl⟩
 ·exact .inl e
 ·exact .inr ⟨D,e,(Evo.others h.heap h'.evo).same D _ hD rfl,hl⟩
def QDJ(O:Org)(Q:Exit->St->Prop):Exit->Act->World->Prop:=fun e a w=>∃ β S,SimE O β S a w/\Q e S
def VWpE(P:Program)(c:Code)(Q:Exit->St->Prop)(S:St):Prop:=∀ (O:Org) (β:Map) (a:Act) (w:World),SimE O β S a w->c.wp P (QDJ O Q) a w
def VWp0(P:Program)(c:Code)(Q:Exit->St->Prop)(S:St):Prop:=∀ (O:Org) (β:Map) (a:Act) (w:World),SimE O β S a w->a.defers=O.ds->c.wp P (QDJ O Q) a w
def VWpE.plain(h:Qx P c Q S.reb):VWpE P c Q S:=fun O β a w hs=>
 wp_mono (Qv c Q _ h _ _ _ _ hs.reb) fun _ _ _ ⟨β',S',h',q⟩=>⟨β',S',hs.on h',q⟩
def VWp0.first(h:Qx P x (Qad Q (VWp0 P y Q)) S.reb):VWp0 P (.seq x y) Q S:=fun O β a w hs hd=>by
 refine wp_seq (wp_mono (Qv x _ _ h _ _ _ _ hs.reb) fun e a' w' hq=>?_)
 obtain⟨β',S',h',q⟩:=hq
 cases e with
 | normal=>exact q O β' a' w' (hs.on h') (h'.defers.trans hd)
 | _=>exact⟨β',S',hs.on h',q⟩
def VWp0.then(h:VWp0 P x (Qad Q (VWpE P y Q)) S):VWp0 P (.seq x y) Q S:=fun O β a w hs hd=>by
 refine wp_seq (wp_mono (h O β a w hs hd) fun e a' w' hq=>?_)
 obtain⟨β',S',h',q⟩:=hq
 cases e with
 | normal=>exact q O β' a' w' h'
 | _=>exact⟨β',S',h',q⟩
def VWp0.block {id:Nat} (h:VWp0 P c (QaD id Q) S):VWp0 P (.block id c) Q S:=fun O β a w hs hd=>by
 refine wp_block (wp_mono (h O β a w hs hd) fun e a' w' hq=>?_)
 obtain⟨β',S',hs',hq⟩:=hq
 cases e with
 | exit id' =>
   simp only[QaD] at hq
   simp only[Exit.inBlock]
   split
   ·rename_i he; rw[if_pos he] at hq; exact⟨β',S',hs',hq⟩
   ·rename_i he; rw[if_neg he] at hq; exact⟨β',S',hs',hq⟩
 | _=>exact⟨β',S',hs',hq⟩
def VWp0.down(hgS:S.ev g=.fn (.func gf) [] [cap])(hf1:P.funcs[gf]?=some fn)(hf2:(fn.name == "runtime.NumGoroutine")=false)(hf3:fn.body.isNone=false)(hV:QEv P gf cap S.hp xs)(h0:p0<S.nt)(h1:p1<S.nt)(hrefs:∀ (k:Nat) (B:Blk),S.hp[k]?=some B->DV.refs.go S.hp.length B.cells=true)(hit:Nat->Bool)(Rr:Nat->Qa->Prop)(hpa:QaF assign=true)(hB:BodyOf P body B)(hbody:∀ i,i<xs.length->Ql4 P S assign B (hit i) (Rr i) ⟨S.nt,S.hp.length,(p1,QxT xs i)::(p0,.int .i64 i)::S.tm,S.hp⟩)(hdone:(∀ i,i<xs.length->hit i=false)->Q .normal S)(hret:∀ i hp',i<xs.length->hit i=true->(∀ j,i<j->j<xs.length->hit j=false)->Rr i hp'->Q .ret { S with hp:=hp' }):
 VWp0 P (Code.rangeFunc g #[p0,p1] assign body) Q S:=fun O β a w hs hd=>by
 refine wp_mono (QFe (hs.reb) hgS hf1 hf2 hf3 hV h0 h1 hrefs hit Rr hpa hB hbody) ?_
 rintro e a' W ⟨D,hD,hK,rfl,⟨rfl,hall,β1,hh,ev⟩ | ⟨rfl,i,β1,hp',hi,hhit,hno,hh,ev,hR⟩⟩
 ·exact⟨β1,S,⟨hs.size,fun t=>(hs.tm t).mono ev,hh,hs.evo.trans ev,.inr ⟨D,by rw[hd],hK,Kd hs.evo.size hD⟩⟩,hdone hall⟩
 ·exact⟨β1,{ S with hp:=hp' },⟨hs.size,fun t=>(hs.tm t).mono ev,hh,hs.evo.trans ev,.inr ⟨D,by rw[hd],hK,Kd hs.evo.size hD⟩⟩,hret i hp' hi hhit hno hR⟩
def QgG (hf:P.funcs[g]? = some fn) (hb:fn.body = some c) (hname:(fn.name == "runtime.NumGoroutine") = false) (hn:args.length<=fn.ntmps) (hc:VWp0 P c (QcR P fn.results.toList h.length R) ⟨fn.ntmps,h.length,Qgs 0 args,h⟩):VCalls P g args h R:=by
 refine⟨fun w β vs hh ha=>.inl ⟨fn,hf,hname,by rw[hb]; rfl,?_⟩⟩
 refine callsIn_wide.1 (callsIn_of_wp_marks (n:=1) hf hb trivial (wpIn_wide.2 ?_))
 have hsz:vs.size=args.length:=ha.1.symm
 have hs:SimE ⟨w,β,h,[]⟩ β ⟨fn.ntmps,h.length,Qgs 0 args,h⟩ { tmps:=vs ++ Jp (fn.ntmps - vs.size) undef,defers:=[] } w:=by
  refine⟨by simp; omega,fun t=>?_,hh,Evo.refl w β h,.inl rfl⟩
  rw[Qhg,if_pos (JG _),Uf]
  cases ht:args[t]? with
  | none=>exact .any _
  | some d =>
    have hlt:t<vs.size:=by rw[hsz]; exact(Jc.1 ht).1
    have e:(vs++Jp (fn.ntmps-vs.size) undef).getD t undef=vs.getD t undef:=by
     simp only[Jq]; rw[KC hlt]
    show RelD w β h d ((vs++Jp (fn.ntmps-vs.size) undef).getD t undef)
    rw[e]
    exact ha.2 t d ht
 refine wp_mono (hc _ β _ w hs rfl) fun e a' w' hq=>?_
 obtain⟨β',S',hs',hq⟩:=hq
 -- the end,in a world that is the same but for blocks without cells
 have fin:∀ W',Up w' W'->Evo w β h W' β' S'.hp->∀ d,QD P S' fn.results.toList=some d->Qvh h.length S'.hp d R->∃ v,(results fn a'.tmps).run P W'=.ok v W'/\∃ v' r h' β'',Ending.returned v=.returned v'/\Evo w β h W' β'' h'/\HeapRel W' β'' h'/\RelD W' β'' h' r v'/\R r h':=by
  intro W' u ev d hr hend
  have hsim:Sim ⟨W',β',S'.hp,a'.defers⟩ β' S'.reb a' W':=⟨rfl,hs'.size,fun t=>(hs'.tm t).up u,hs'.heap.up u,Evo.refl _ _ _,rfl⟩
  obtain⟨v,r1,r2⟩:=Qb2 (P:=P) (fn:=fn) (d:=d) hsim (by
   have e:Qkg P S'.reb=Qkg P S':=by funext r; cases r<;>rfl
   unfold QD at hr |-
   rw[e]; exact hr)
  obtain⟨d',hp',k1,k2,k3,k4,k5⟩:=Qdo (hs'.heap.up u) ev.len r2 hend
  exact⟨v,r1,v,d',hp',β',rfl,⟨ev.os,ev.tape,ev.output,ev.size,by omega,ev.beta,ev.same,ev.shape,fun b hb hl=>ev.im b hb (k5 b hl),ev.X⟩,k3,k2,k1⟩
 have key:(∃ d,QD P S' fn.results.toList=some d/\Qvh h.length S'.hp d R)->LeavesInM Fence.wide 1 P fn a'.tmps (fun e w'=>∃ v r h' β',e=.returned v/\Evo w β h w' β' h'/\HeapRel w' β' h'/\RelD w' β' h' r v/\R r h') a'.defers .returning w':=by
  rintro⟨d,hr,hend⟩
  rcases hs'.mark with e0 | ⟨D,e0,hD,hl⟩
  ·rw [e0]
   exact fin w' ⟨Jl _,fun _ _ _ _ h=>h⟩ hs'.evo d hr hend
  ·rw [e0]
   refine⟨by simp,.inl ⟨D,_,rfl,run_takeDeferred hD,?_⟩⟩
   have hg:=grownBy_putObj' w' D (.deferred none)
   have hg2:∀ r,some D=some r->w.heap.size<=r/\∃ o:Obj,w'.heap[r]?=some o/\o.isCells=false:=fun r e=>by cases e; exact⟨hl,_,hD,rfl⟩
   exact fin _ (Up.grown hg fun r h=>(hg2 r h).2) (hs'.evo.grown hg hg2) d hr hend
 unfold QcR at hq
 cases e with
 | normal =>
   dsimp only at hq
   split at hq
   ·rename_i d hd; exact key ⟨d,hd,hq⟩
   ·exact hq.elim
 | ret =>
   dsimp only at hq
   split at hq
   ·rename_i d hd; exact key ⟨d,hd,hq⟩
   ·exact hq.elim
 | _=>exact hq.elim
end Go.V
namespace Go.V
def Stable(G:World->World->Map->Qa->Prop):Prop:=∀ (w0 w:World) (β:Map) (hp:Qa) (w':World) (β':Map) (hp':Qa),HeapRel w β hp->Evo w β hp w' β' hp'->G w0 w β hp->G w0 w' β' hp'
def Stable.and(h:Stable G)(h':Stable G'):Stable (fun w0 w β hp=>G w0 w β hp/\G' w0 w β hp):=fun w0 w β hp w' β' hp' hh e q=>⟨h w0 w β hp w' β' hp' hh e q.1,h' w0 w β hp w' β' hp' hh e q.2⟩
structure SimG(G:World->World->Map->Qa->Prop)(O:Org)(β:Map)(S:St)(a:Act)(w:World):Prop where
 defers:a.defers=O.ds
 size:a.tmps.size=S.nt
 tm:∀ t,RelD w β S.hp (look S.tm t) (a.tmps.getD t undef)
 heap:HeapRel w β S.hp
 evo:Evo O.w O.β O.hp w β S.hp
 g:G O.w w β S.hp
def SimG.reb(h:SimG G O β S a w):Sim ⟨w,β,S.hp,a.defers⟩ β S.reb a w:=⟨rfl,h.size,h.tm,h.heap,Evo.refl _ _ _,rfl⟩
def SimG.on(hG:Stable G)(h:SimG G O β S a w)(h':Sim ⟨w,β,S.hp,a.defers⟩ β' S' a' w'):SimG G O β' S' a' w':=
 ⟨h'.defers.trans h.defers,h'.size,h'.tm,h'.heap,h.evo.trans h'.evo,hG _ _ _ _ _ _ _ h.heap h'.evo h.g⟩
variable {P:Program} {γ:Type} {Γ:γ->World->World->Map->Qa->Prop}
def Qtu(Γ:γ->World->World->Map->Qa->Prop)(O:Org)(Q:Exit->St->γ->Prop):Exit->Act->World->Prop:=fun e a w=>∃ β S g,SimG (Γ g) O β S a w/\Q e S g
def VWpG(P:Program)(Γ:γ->World->World->Map->Qa->Prop)(c:Code)(Q:Exit->St->γ->Prop)(S:St)(g:γ):Prop:=∀ (O:Org) (β:Map) (a:Act) (w:World),SimG (Γ g) O β S a w->c.wp P (Qtu Γ O Q) a w
def Qci(Q:Exit->St->γ->Prop)(K:St->γ->Prop):Exit->St->γ->Prop
 | .normal,S,g=>K S g
 | e,S,g=>Q e S g
def Qgl(id:Nat)(Q:Exit->St->γ->Prop):Exit->St->γ->Prop
 | .exit id',S,g=>if id'=id then Q .normal S g else Q (.exit id') S g
 | e,S,g=>Q e S g
theorem VWpG.plain(hΓ:∀ g,Stable (Γ g))(h:Qx P c (fun e S'=>Q e S' g) S.reb):VWpG P Γ c Q S g:=fun _ _ _ _ hs=>
 wp_mono (Qv c _ _ h _ _ _ _ hs.reb) fun _ _ _ ⟨β',S',h',q⟩=>⟨β',S',g,hs.on (hΓ g) h',q⟩
theorem VWpG.seq(h:VWpG P Γ x (Qci Q (VWpG P Γ y Q)) S g):VWpG P Γ (.seq x y) Q S g:=fun O β a w hs=>by
 refine wp_seq (wp_mono (h O β a w hs) fun e a' w' hq=>?_)
 obtain⟨β',S',g',h',q⟩:=hq
 cases e with
 | normal=>exact q O β' a' w' h'
 | _=>exact⟨β',S',g',h',q⟩
theorem VWpG.first(hΓ:∀ g,Stable (Γ g))(h:Qx P x (fun e S'=>Qci Q (VWpG P Γ y Q) e S' g) S.reb):VWpG P Γ (.seq x y) Q S g:=(VWpG.plain hΓ h).seq
theorem VWpG.block {id:Nat} (h:VWpG P Γ c (Qgl id Q) S g):VWpG P Γ (.block id c) Q S g:=fun O β a w hs=>by
 refine wp_block (wp_mono (h O β a w hs) fun e a' w' hq=>?_)
 obtain⟨β',S',g',hs',hq⟩:=hq
 cases e with
 | exit id' =>
   simp only[Qgl] at hq
   simp only[Exit.inBlock]
   split
   ·rename_i he; rw[if_pos he] at hq; exact⟨β',S',g',hs',hq⟩
   ·rename_i he; rw[if_neg he] at hq; exact⟨β',S',g',hs',hq⟩
 | _=>exact⟨β',S',g',hs',hq⟩
theorem VWpG.cond(ht:S.ev c=.pv (.lit (.bool t)))(h1:t=true->VWpG P Γ x Q S g)(h2:t=false->VWpG P Γ y Q S g):VWpG P Γ (.cond c x y) Q S g:=fun O β a w hs=>by
 have hc:=hs.reb.ev c
 have e:S.reb.ev c=S.ev c:=by cases c<;>rfl
 rw[e,ht] at hc
 exact wp_cond_split (Qj hc) (fun q=>h1 q O β a w hs) (fun q=>h2 q O β a w hs)
def WeakG(Γ:γ->World->World->Map->Qa->Prop)(S:St)(g:γ)(S':St)(g':γ):Prop:=∀ (O:Org) (β:Map) (a:Act) (w:World),SimG (Γ g) O β S a w->∃ β',SimG (Γ g') O β' S' a w
theorem VWpG.loop {c:Code} {Q:Exit->St->γ->Prop} {g:γ} {ι:Type} (I:ι->St) (J:ι->γ) (μ:ι->Nat) (i₀:ι) (h₀:WeakG Γ S g (I i₀) (J i₀)) (round:∀ i,VWpG P Γ c (Qci Q fun S' g'=>∃ j,μ j < μ i/\WeakG Γ S' g' (I j) (J j)) (I i) (J i)):VWpG P Γ (.loop c) Q S g:=by
 intro O β a w hs b k cs
 have key:∀ n β i a w,μ i = n->SimG (Γ (J i)) O β (I i) a w ->
  ∃ e a' w',Qtu Γ O Q e a' w'/\Arrives P (lone (b.at a (.code c::.inLoop c::k)) cs w) b k cs e a' w':=by
  intro n
  induction n using KB with
  | _ n ih =>
    intro β i a w hn hs
    obtain⟨e,a₁,w₁,hq,harr⟩:=round i O β a w hs b (.inLoop c::k) cs
    obtain⟨β₁,S₁,g₁,hs₁,hq⟩:=hq
    cases e with
    | normal =>
      obtain⟨j,hlt,hle⟩:=hq
      obtain⟨β₂,hs₂⟩:=hle _ _ _ _ hs₁
      obtain⟨e₂,a₂,w₂,hq₂,harr₂⟩:=ih (μ j) (hn▸hlt) β₂ j a₁ w₁ rfl hs₂
      exact⟨e₂,a₂,w₂,hq₂,.of_steps (Steps.trans harr (.one step_inLoop)) harr₂⟩
    | exit id=>exact⟨_,a₁,w₁,⟨β₁,S₁,g₁,hs₁,hq⟩,.pass (x:=.inLoop c) rfl (fun _ _=>.inl (by simp)) harr⟩
    | goto l=>exact⟨_,a₁,w₁,⟨β₁,S₁,g₁,hs₁,hq⟩,.pass (x:=.inLoop c) rfl (fun _ _=>.inl (by simp)) harr⟩
    | ret=>exact⟨_,a₁,w₁,⟨β₁,S₁,g₁,hs₁,hq⟩,.pass (x:=.inLoop c) rfl (fun _ _=>.inl (by simp)) harr⟩
    | panic ch=>exact⟨_,a₁,w₁,⟨β₁,S₁,g₁,hs₁,hq⟩,.pass (x:=.inLoop c) rfl (fun _ _=>.inl (by simp)) harr⟩
    | outgrown=>exact⟨_,a₁,w₁,⟨β₁,S₁,g₁,hs₁,hq⟩,.pass (x:=.inLoop c) rfl (fun _ _=>.inl (by simp)) harr⟩
 obtain⟨β₀,hs₀⟩:=h₀ _ _ _ _ hs
 obtain⟨e,a',w',hq,harr⟩:=key _ β₀ i₀ a w rfl hs₀
 exact⟨e,a',w',hq,.of_steps (.one step_loop) harr⟩
theorem WeakG.of(hw:∀ w0 w β hp β' hp',Γ g w0 w β hp->Γ g w0 w β' hp')(h:QoZ S.reb { S' with base:=S.hp.length }):WeakG Γ S g S' g:=fun O β a w hs=>by
 obtain⟨β',h'⟩:=hs.reb.weak h
 exact⟨β',h'.defers.trans hs.defers,h'.size,h'.tm,h'.heap,hs.evo.trans h'.evo,hw _ _ _ _ _ _ hs.g⟩
end Go.V
namespace Go.V
open Go.MapKept
end Go.V
namespace Go.V
variable {P:Program} {γ:Type} {Γ:γ->World->World->Map->Qa->Prop}
def OpG (P:Program) (Γ:γ->World->World->Map->Qa->Prop) (ops:Array Oper) (o:Oper) (K:St->γ->Prop) (S:St) (g:γ):Prop :=
 ∀ (n:Nat) (Q:Exit->Act->World->Prop) (next:Act->World->Prop) (O:Org) (β:Map) (a:Act) (w:World),SimG (Γ g) O β S a w ->
   (∀ β' S' g' a' w',SimG (Γ g') O β' S' a' w'->K S' g'->next a' w') ->
   if Region.wanted o (yielded ops a.tmps)=true then o.wpIn (wd none) n P a w next Q else next (a.put o.dst undef) w
def Qbm:List (List Oper×Option Oper)->List Oper
 | []=>[]
 | (A,none)::r=>A++Qbm r
 | (A,some o)::r=>A++o::Qbm r
def Qzw(P:Program)(Γ:γ->World->World->Map->Qa->Prop)(ops:Array Oper):List (List Oper×Option Oper)->(St->γ->Prop)->St->γ->Prop
 | [],K,S,g=>K S g
 | (A,none)::r,K,S,g=>Qah P ops.toList A (fun S1=>Qzw P Γ ops r K S1 g) S.reb
 | (A,some o)::r,K,S,g=>Qah P ops.toList A (fun S1=>OpG P Γ ops o (Qzw P Γ ops r K) S1 g) S.reb
theorem Qe8 (hΓ:∀ g,Stable (Γ g)) (hK:∀ β S g a w,SimG (Γ g) O β S a w->K S g->Q .normal a w):
 ∀ (ch:List (List Oper × Option Oper)) (pre:List Oper),ops.toList = pre ++ Qbm ch->∀ (β:Map) (S:St) (g:γ) (a:Act) (w:World),SimG (Γ g) O β S a w->Qzw P Γ ops ch K S g ->
   wpOpsIn (wd none) n P ops Q (J2 pre.length (Qbm ch).length) a w
 | [],pre,_,β,S,g,a,w,hs,h=>by
   simp only[Qbm,Je,K6,wpOpsIn]
   exact hK β S g a w hs h
 | (A,none) :: r,pre,hops,β,S,g,a,w,hs,h=>by
   have e:J2 pre.length (Qbm ((A,none)::r)).length=J2 pre.length A.length++J2 (pre++A).length (Qbm r).length:=by
    simp only[Qbm,Jg]
    rw[<- Kv]
   rw[e]
   refine QaJ (P:=P) (rd:=none) (n:=n) (ops:=ops) (Q:=Q) (T:=fun _=>True) (fun _ _ _ _ _=>trivial) ?_ A pre (Qbm r) (by rw[hops]; simp[Qbm]) β S.reb a w hs.reb trivial h
   intro β1 S1 a1 w1 hs1 _ h1
   exact Qe8 hΓ hK r (pre++A) (by rw[hops]; simp[Qbm]) β1 S1 g a1 w1 (hs.on (hΓ g) hs1) h1
 | (A,some o) :: r,pre,hops,β,S,g,a,w,hs,h=>by
   have e:J2 pre.length (Qbm ((A,some o)::r)).length=J2 pre.length A.length++((pre++A).length::J2 (pre++A++[o]).length (Qbm r).length):=by
    simp only[Qbm,Jg,Jd,Je]
    rw[show(pre.length+A.length)::J2 (pre.length+A.length+(0+1)) (Qbm r).length=J2 (pre.length+A.length) ((Qbm r).length+1) by rw[K7],<- Kv]
   rw[e]
   refine QaJ (P:=P) (rd:=none) (n:=n) (ops:=ops) (Q:=Q) (T:=fun _=>True) (fun _ _ _ _ _=>trivial) ?_ A pre (o::Qbm r) (by rw[hops]; simp[Qbm]) β S.reb a w hs.reb trivial h
   intro β1 S1 a1 w1 hs1 _ h1
   have hidx:ops[(pre++A).length]?=some o:=by
    have:ops.toList[(pre++A).length]?=some o:=by rw[hops]; simp[Qbm]
    simpa using this
   have:=h1 n Q (wpOpsIn (wd none) n P ops Q (J2 (pre++A++[o]).length (Qbm r).length)) O β1 a1 w1 (hs.on (hΓ g) hs1) (fun β' S' g' a' w' hs' hk=>Qe8 hΓ hK r (pre++A++[o]) (by rw[hops]; simp[Qbm]) β' S' g' a' w' hs' hk)
   simp only[wpOpsIn,hidx]
   split
   ·rename_i hw; rw[if_pos hw] at this; exact this
   ·rename_i hw; rw[if_neg hw] at this; exact⟨fun _ _=>trivial,this⟩
theorem VWpG.region(hΓ:∀ g,Stable (Γ g)){id:Nat}(ch:List (List Oper×Option Oper))(hch:ops.toList=Qbm ch)(h:Qzw P Γ ops ch (Q .normal) S g):VWpG P Γ (.region id ops false) Q S g:=fun O β a w hs=>by
 rw[<- wpIn_wide (n:=10)]
 refine wpIn_region (F:=wd none) ?_
 have:=Qe8 (n:=10) (P:=P) hΓ (Q:=Qtu Γ O Q) (O:=O) (fun β S g a w h1 h2=>⟨β,S,g,h1,h2⟩) ch [] (by simpa using hch) β S g a w hs h
 rw[<- hch] at this
 simpa [J7] using this
theorem SimG.put (h:SimG G O β S a w) (u:Up w w') (ev:Evo O.w O.β O.hp w' β S.hp) (hf:S.fits dst = true) (hd:RelD w' β S.hp d v) (h6:G' O.w w' β S.hp):SimG G' O β (S.put dst d) (a.put dst v) w':=by
 refine⟨by rw[QbH]; exact h.defers,?_,fun t=>?_,by rw[St.put_hp]; exact h.heap.up u,by rw[St.put_hp]; exact ev,by rw[St.put_hp]; exact h6⟩
 ·rw[QcB,St.put_nt]; exact h.size
 ·rw [St.put_hp]
  cases dst with
  | none=>exact(h.tm t).up u
  | some t0 =>
    have hlt:t0<a.tmps.size:=by rw[h.size]; simpa [St.fits] using hf
    simp only[St.put,look,Act.put]
    split
    ·rename_i e
     subst e
     simpa [Jq,hlt] using hd
    ·rename_i e
     have:=(h.tm t).up u
     simpa [Jq,Kw,e] using this
theorem Qgx(hs:SimG G O β S a w)(hG:QC ops.toList S o=some b):Region.wanted o (yielded ops a.tmps)=b:=by
 refine QJ (ops:=ops) hs.reb ?_
 rw[<- hG]; rfl
theorem Qy5(hs:SimG G O β S a w)(x:Operand):RelD w β S.hp (Qn true (S.ev x)) (a.eval x):=by
 have e:S.reb.ev x=S.ev x:=by cases x<;>rfl
 exact Qam (e▸hs.reb.ev x) rfl
end Go.V
namespace Go.V
open Go.MapKept
structure EvoC(w:World)(β:Map)(hp:Qa)(w':World)(β':Map)(hp':Qa):Prop where
 size:w.heap.size<=w'.heap.size
 len:hp.length<=hp'.length
 beta:∀ k,k<hp.length->β'.f k=β.f k
 same:∀ (b:Nat) (C:Array Value) (T:TypeId) (m:Nat×Nat),w.heap[b]?=some (.cells C T m)->¬ live β hp b->w'.heap[b]?=w.heap[b]?
 shape:∀ (b:Nat) (C:Array Value) (T:TypeId) (m:Nat×Nat),w.heap[b]?=some (.cells C T m)->∃ C' m',w'.heap[b]?=some (.cells C' T m')/\C'.size=C.size
 im:∀ b,b<w.heap.size->live β' hp' b->live β hp b
 X:β'.X=β.X
def Evo.toC(e:Evo w β hp w' β' hp'):EvoC w β hp w' β' hp':=
 ⟨e.size,e.len,e.beta,fun b _ _ _ h hl=>e.same b (Ja.1 h).1 hl,e.shape,e.im,e.X⟩
def EvoC.refl(w:World)(β:Map)(hp:Qa):EvoC w β hp w β hp:=(Evo.refl w β hp).toC
def Up.toC(u:Up w w')(β:Map)(hp:Qa):EvoC w β hp w' β hp:=
 ⟨u.size,Jl _,fun _ _=>rfl,fun b C T m h _=>by rw[u.same b C T m h,h],fun b C T m h=>⟨C,m,u.same b C T m h,rfl⟩,fun _ _ h=>h,rfl⟩
def EvoC.trans{w0 w1 w2:World}{β0 β1 β2:Map}{h0 h1 h2:Qa}(a:EvoC w0 β0 h0 w1 β1 h1)(b:EvoC w1 β1 h1 w2 β2 h2):EvoC w0 β0 h0 w2 β2 h2:=by
 refine⟨Kd a.size b.size,Kd a.len b.len,fun k hk=>by rw[b.beta k (Jk hk a.len),a.beta k hk],fun x C T m h hl=>?_,fun x C T m h=>?_,fun x hx h=>a.im x hx (b.im x (Jk hx a.size) h),b.X.trans a.X⟩
 ·have e1:=a.same x C T m h hl
  rw[b.same x C T m (e1.trans h) (fun h'=>hl (a.im x (Ja.1 h).1 h')),e1]
 ·obtain ⟨C',m',h',e⟩:=a.shape x C T m h
  obtain⟨C'',m'',h'',e'⟩:=b.shape x C' T m' h'
  exact⟨C'',m'',h'',e'.trans e⟩
def QhC{w w':World}{a:Addr}(h:w.cell? a=some v)(hs:∀ (C:Array Value) (T:TypeId) (m:Nat×Nat),w.heap[a.block]?=some (.cells C T m)->w'.heap[a.block]?=w.heap[a.block]?):w'.cell? a=some v:=by
 obtain⟨o,ho,hc⟩:=cells_of_cell h
 cases o with
 | cells C T m=>rw[Qdg (hs C T m ho)]; exact h
 | _=>simp[Obj.isCells] at hc
def RelP.monoC (h:RelP w im p v) (hsz:w.heap.size<=w'.heap.size) (hs:∀ (b:Nat) (C:Array Value) (T:TypeId) (m:Nat × Nat),w.heap[b]? = some (.cells C T m)->¬ im b->w'.heap[b]? = w.heap[b]?) (hi:∀ b,b < w.heap.size->im' b->im b):RelP w' im' p v:=by
 induction h with
 | lit v h=>exact .lit v h
 | str l=>exact .str l
 | sl xs a cap sz val h1 h2 h3 h4 h5 _ ih =>
   refine .sl xs a cap sz val h1 h2 h3 h4 (fun i j c d hc hd=>?_) (fun i j c d hc hd=>ih i j c d hc hd)
   obtain⟨ad,e,hb,hn,hcell⟩:=h5 i j c d hc hd
   exact⟨ad,e,Jk hb hsz,fun x=>hn (hi _ hb x),QhC hcell fun C T m h=>hs _ C T m h hn⟩
 | slc xs a sz val h2 h3 h4 h5 _ ih =>
   refine .slc xs a sz val h2 h3 h4 (fun i j c d hc hd=>?_) (fun i j c d hc hd=>ih i j c d hc hd)
   obtain⟨ad,e,hb,hn,hcell⟩:=h5 i j c d hc hd
   exact⟨ad,e,Jk hb hsz,fun x=>hn (hi _ hb x),QhC hcell fun C T m h=>hs _ C T m h hn⟩
def EvoC.img{w w':World}{β β':Map}{hp hp':Qa}(e:EvoC w β hp w' β' hp'):∀ b,b<w.heap.size->img β' hp' b->img β hp b:=
 fun b h l=>l.imp (fun x=>by rw[<- e.X]; exact x) (e.im b h)
def RelD.monoC (h:RelD w β hp d v) (e:EvoC w β hp w' β' hp'):RelD w' β' hp' d v:=by
 have hs:∀ (b:Nat) (C:Array Value) (T:TypeId) (m:Nat×Nat),w.heap[b]?=some (.cells C T m)->¬ V.img β hp b->w'.heap[b]?=w.heap[b]?:=fun b C T m h n=>e.same b C T m h fun l=>n (.inr l)
 induction h with
 | pv p v h=>exact .pv p v (h.monoC e.size hs e.img)
 | ptr k off b h hb=>exact .ptr k off b (Jk h e.len) ((e.beta k h).trans hb)
 | own k sz off len cap b C T m h hb h1 h2 h3 h4 =>
   obtain⟨C',m',h3',hs⟩:=e.shape _ _ _ _ h3
   exact .own k sz off len cap b C' T m' (Jk h e.len) ((e.beta k h).trans hb) h1 h2 h3' (by rw[hs]; exact h4)
 | ownc k sz off len cap b o C T m h hb h1 h2 h3 h4 h5 =>
   obtain⟨C',m',h3',hs⟩:=e.shape _ _ _ _ h3
   exact .ownc k sz off len cap b o C' T m' (Jk h e.len) ((e.beta k h).trans hb) h1 h2 h3' (by rw[hs]; exact h4) h5
 | own0 k sz a h hb ha=>exact .own0 k sz a (Jk h e.len) ((e.beta k h).trans hb) ha
 | ip cs ad val h1 h2 h3 =>
   refine .ip cs ad val h1 (fun j d hd=>?_) (fun j d hd=>(h3 j d hd).monoC e.size hs e.img)
   obtain⟨a,b,c⟩:=h2 j d hd
   exact⟨Jk a e.size,fun x=>b (e.img _ a x),QhC c fun C T m h=>hs _ C T m h b⟩
 | agg ds vs h _ ih=>exact .agg ds vs h ih
 | fn f ds es vs us h h' _ _ ih ih'=>exact .fn f ds es vs us h h' ih ih'
 | tup ds vs h _ ih=>exact .tup ds vs h ih
 | opt c d v _ hf ih=>exact .opt c d v ih hf
 | any v=>exact .any v
abbrev QED:=List (Value×DV)
abbrev MapsD:=List (Nat×QED)
structure MapAt(w:World)(β:Map)(hp:Qa)(b:Nat)(L:QED):Prop where
 at_:∃ es clock,w.heap[b]?=some (.map es clock)/\Stamped es clock/\es.toList.map (·.key)=L.map (·.1)/\∀ (i:Nat) (e:MapEntry) (p:Value×DV),es.toList[i]?=some e->L[i]?=some p->RelD w β hp p.2 e.val
def Qzd(g:MapsD)(w0 w:World)(β:Map)(hp:Qa):Prop:=(g.map (·.1)).Nodup/\∀ p∈g,w0.heap.size<=p.1/\MapAt w β hp p.1 p.2
abbrev QqM:=World×Map×Qa
def MapsD.At(c:QqM)(g:MapsD)(w0 w:World)(β:Map)(hp:Qa):Prop:=Qzd g w0 w β hp/\EvoC c.1 c.2.1 c.2.2 w β hp
abbrev Qdl(c:QqM):MapsD->World->World->Map->Qa->Prop:=fun g=>MapsD.At c g
def MapAt.go(h:MapAt w β hp b L)(e:EvoC w β hp w' β' hp')(hb:w'.heap[b]?=w.heap[b]?):MapAt w' β' hp' b L:=by
 obtain⟨es,clock,h1,h2,h3,h4⟩:=h.at_
 exact⟨es,clock,hb.trans h1,h2,h3,fun i e' p q1 q2=>(h4 i e' p q1 q2).monoC e⟩
def Ql(c:QqM)(g:MapsD):Stable (Qdl c g):=fun w0 w β hp w' β' hp' hh e h=>⟨⟨h.1.1,fun p hp=>by
 obtain⟨h1,h2⟩:=h.1.2 p hp
 obtain⟨es,clock,q,_⟩:=h2.at_
 exact⟨h1,h2.go e.toC ((Evo.others hh e).same _ _ q rfl |>.trans q.symm)⟩⟩,h.2.trans e.toC⟩
structure KeyT(P:Program)(kt:TypeId){κ:Type}[DecidableEq κ](enc:κ->Value):Prop where
 check:∀ (e:Bool) (w:World) (k:κ),(Instr.checkKey e 10000 kt (enc k)).run P w=.ok () w
 find:∀ (w:World) (k:κ) (l:List MapEntry) (ks:List κ),l.map (·.key)=ks.map enc->(Instr.findKey kt (enc k) l).run P w=.ok ((ks.findIdx? (fun x=>decide (x=k))).bind fun i=>(l[i]?).map fun e=>(i,e.val)) w
 stays:∀ (w:World) (k:κ),(Instr.keyThatStays (enc k) (enc k)).run P w=.ok (enc k) w
 inj:∀ a b,enc a=enc b->a=b
def Qhs:∀ {l:List MapEntry} {ks:List Int} {i:Nat},l.map (·.key) = ks.map (fun x=>Value.int .i64 x)->Instr.findNow (.int q) (.int .i64 k) l i = some ((ks.findIdx? (fun x=>decide (x = k))).bind fun j=>(l[j]?).map fun e=>(i + j,e.val))
 | [],[],i,_=>rfl
 | [],_::_,_,h=>by simp at h
 | _::_,[],_,h=>by simp at h
 | e :: l,a :: ks,i,h=>by
   simp only[Js,List.cons.injEq] at h
   have hs:Instr.sameNow (.int q) (.int .i64 k) e.key=some (k==a):=by rw[h.1]; simp[Instr.sameNow]
   by_cases hka:a=k
   ·subst hka
    simp[Instr.findNow,hs,J6]
   ·have hb:(k == a) = false:=by simpa using fun h=>hka h.symm
    have:=Qhs (q:=q) (k:=k) (i:=i+1) h.2
    simp only[Instr.findNow,hs,hb,this,J6,decide_eq_false hka]
    cases hf:ks.findIdx? (fun x=>decide (x=k)) with
    | none=>simp[hf]
    | some j=>simp[hf]; congr 1; funext x; simp; omega
def Qxq(hk:P.underlying kt=some (.int .i64)):KeyT P kt (fun x:Int=>Value.int .i64 x):=
 ⟨fun e w k=>run_checkKey hk (by simp[IsKey]) e 9999,fun w k l ks h=>by rw[run_findKey hk (Qhs (i:=0) h)]; simp,fun w k=>by simp[Instr.keyThatStays,Instr.sameBits],fun a b h=>by simpa using h⟩
section
variable {κ:Type} [DecidableEq κ]
def QdQ(enc:κ->Value)(L:List (κ×DV)):QED:=L.map fun p=>(enc p.1,p.2)
def QhP:List (κ×DV)->κ->Option DV
 | [],_=>none
 | (a,x)::r,k=>if a=k then some x else QhP r k
def QiL:List (κ×DV)->κ->DV->List (κ×DV)
 | [],k,v=>[(k,v)]
 | (a,x)::r,k,v=>if a=k then (a,v)::r else (a,x)::QiL r k v
theorem QxC (L:List (κ × DV)) (k:κ) (v:DV) (k':κ):QhP (QiL L k v) k' = if k = k' then some v else QhP L k':=by
 induction L with
 | nil=>simp[QiL,QhP]
 | cons p r ih =>
   obtain⟨a,x⟩:=p
   by_cases h:a=k
   ·subst h
    simp only[QiL,QhP,if_true]
    split<;>rfl
   ·simp only [QiL,if_neg h,QhP,ih]
    by_cases h':a=k'
    ·subst h'
     rw[if_pos rfl,if_neg (Ne.symm h),if_pos rfl]
    ·rw[if_neg h',if_neg h']
theorem QxD (L:List (κ × DV)) (k:κ):QhP L k = ((L.map (·.1)).findIdx? (fun x=>decide (x = k))).bind fun i=>(L[i]?).map (·.2):=by
 induction L with
 | nil=>rfl
 | cons p r ih =>
   obtain⟨a,x⟩:=p
   by_cases h:a=k
   ·subst h; simp[QhP,J6]
   ·simp only [QhP,if_neg h,ih,Js,J6,decide_eq_false h]
    cases hf:(r.map (·.1)).findIdx? (fun x=>decide (x=k))<;>simp[hf]
theorem Qs2 (L:List (κ × DV)) (k:κ) (v:DV) (h:(L.map (·.1)).findIdx? (fun x=>decide (x = k)) = none):QiL L k v = L ++ [(k,v)]/\∀ p ∈ L,p.1 ≠ k:=by
 induction L with
 | nil=>simp[QiL]
 | cons p r ih =>
   obtain⟨a,x⟩:=p
   simp only[Js,J6] at h
   by_cases ha:a=k
   ·simp[ha] at h
   ·simp only [decide_eq_false ha,Kc,if_false,Option.map_eq_none_iff] at h
    obtain⟨h1,h2⟩:=ih h
    exact⟨by simp[QiL,ha,h1],by simp[ha]; intro a' b hm; exact h2 (a',b) hm⟩
theorem Qs1 (L:List (κ × DV)) (k:κ) (v:DV) (h:(L.map (·.1)).findIdx? (fun x=>decide (x = k)) = some i):QiL L k v = L.set i (k,v)/\∃ d,L[i]? = some (k,d):=by
 induction L generalizing i with
 | nil=>simp at h
 | cons p r ih =>
   obtain⟨a,x⟩:=p
   simp only[Js,J6] at h
   by_cases ha:a=k
   ·simp [ha] at h
    subst h
    simp[QiL,ha]
   ·simp only [decide_eq_false ha,Kc,if_false,Option.map_eq_some_iff] at h
    obtain⟨j,hj,rfl⟩:=h
    obtain⟨h1,d,h2⟩:=ih hj
    exact⟨by simp[QiL,ha,h1],d,by simpa using h2⟩
end
end Go.V
namespace Go.V
open Go.MapKept
variable {P:Program} {γ:Type} {Γ:γ->World->World->Map->Qa->Prop}
def Qmm (P:Program) (Γ:γ->World->World->Map->Qa->Prop) (o:Oper) (K:St->γ->Prop) (S:St) (g:γ):Prop :=
 ∀ (O:Org) (β:Map) (a:Act) (w:World),SimG (Γ g) O β S a w ->
   ∃ v w',((execOp a.eval o).run P w=.ok (.value v) w'\/((execOp a.eval o).run P w=.ok .skip w'/\v=undef))/\∃ β' S' g',SimG (Γ g') O β' S' (a.put o.dst v) w'/\K S' g'
theorem QjM(hG:QC ops.toList S o=some true)(nd:∀ c,o.op≠.defer c)(h:Qmm P Γ o K S g):OpG P Γ ops o K S g:=fun n Q next O β a w hs hn=>by
 rw[Qgx hs hG,if_pos rfl]
 obtain⟨v,w',h1,β',S',g',h2,h3⟩:=h O β a w hs
 refine⟨fun _ _=>trivial,?_⟩
 rw[Oper.semAt_plain _ _ _ nd]
 rcases h1 with h1 | ⟨h1,rfl⟩
 ·rw[h1]; exact hn _ _ _ _ _ h2 h3
 ·rw[h1]; exact hn _ _ _ _ _ h2 h3
theorem Qes [DecidableEq κ] (ht:P.underlying t = some (.map kt et)) (hk:KeyT P kt enc) (hz:∀ w,(zeroValue et).run P w = .ok zv w) (hzr:∀ w β hp,RelD w β hp z zv) (h:MapAt w β hp b (QdQ enc L)) (k:κ) (c:Bool):
 ∃ v,(Instr.lookup t (.map (some b)) (enc k) c).run P w=.ok (if c then .tuple #[v,.bool (QhP L k).isSome] else v) w/\RelD w β hp ((QhP L k).getD z) v:=by
 obtain⟨es,clock,h1,h2,h3,h4⟩:=h.at_
 have hf:=hk.find w k es.toList (L.map (·.1)) (by rw[h3]; simp[QdQ])
 have hlen:es.toList.length=L.length:=by have:=congrArg Ky h3; simpa [QdQ] using this
 rw[QxD]
 unfold Instr.lookup
 simp only[Sem.run_bind,run_underlying ht,Result.andThen,Go.MapKept.run_getObj_map h1,Sem.run_pure,hk.check,hf]
 cases hi:(L.map (·.1)).findIdx? (fun x=>decide (x=k)) with
 | none=>exact⟨zv,by cases c<;>simp[hz,Result.andThen],by simpa using hzr w β hp⟩
 | some i =>
   have hlt:i<L.length:=by
    have:=(List.findIdx?_eq_some_iff_findIdx_eq.1 hi).1
    simpa using this
   have e1:L[i]?=some L[i]:=Jb hlt
   have e2:es.toList[i]?=some es.toList[i]:=Jb (by omega)
   have hr:=h4 i _ (enc L[i].1,L[i].2) e2 (by simp[QdQ,e1])
   refine⟨es.toList[i].val,?_,?_⟩
   ·simp only [Ku,e2,JD,e1]
    cases c<;>simp
   ·simp only[Ku,e1,JD,Ks]; exact hr
theorem Qhx(hop:o.op=.makeMap t none)(hf:S.fits o.dst=true)(hK:∀ b,(∀ p∈g,p.1≠b)->K (S.put o.dst (QcI o.guard true (.pv (.lit (.map (some b)))))) ((b,[])::g)):Qmm P (Qdl c) o K S g:=fun O β a w hs=>by
 have hgr:=World.grownBy_alloc w (.map #[] 0) none
 have e1:=Go.MapKept.heap_alloc w (.map #[] 0)
 have hu:Up w (w.alloc (.map #[] 0)):=Up.grown hgr (by simp)
 have fresh:∀ p∈g,p.1≠w.heap.size:=fun p hp he=>by
  obtain⟨es,clock,q,_⟩:=(hs.g.1.2 p hp).2.at_
  rw[he] at q
  simp at q
 refine⟨.map (some w.heap.size),w.alloc (.map #[] 0),.inl ?_,β,_,_,hs.put hu (hs.evo.grown hgr (by simp)) hf (Qat (.pv _ _ (.lit _ rfl))) ⟨⟨?_,?_⟩,hs.g.2.trans (hu.toC _ _)⟩,hK w.heap.size fresh⟩
 ·simp [execOp,hop]
  rfl
 ·rw [Js,List.nodup_cons]
  refine⟨fun hm=>?_,hs.g.1.1⟩
  obtain⟨p,hp,he⟩:=J9.1 hm
  exact fresh p hp he
 ·intro p hp
  rcases KK.1 hp with rfl | hp
  ·exact⟨hs.evo.size,⟨#[],0,e1.1,stamped_empty 0,rfl,fun i e p h=>by simp at h⟩⟩
  ·obtain ⟨h1,h2⟩:=hs.g.1.2 p hp
   obtain⟨es,clock,q,_⟩:=h2.at_
   exact⟨h1,h2.go (hu.toC _ _) (e1.2 _ (Ja.1 q).1)⟩
theorem Qux{κ:Type}[DecidableEq κ]{enc:κ->Value}{c:QqM}{o:Oper}{K:St->MapsD->Prop}{g:MapsD}{m x:Operand}{b:Nat}{L:List (κ×DV)}{k:κ}{z:DV}{zv:Value}(hop:o.op=.lookup t m x false)(hf:S.fits o.dst=true)(ht:P.underlying t=some (.map kt et))(hk:KeyT P kt enc)(hz:∀ w,(zeroValue et).run P w=.ok zv w)(hzr:∀ w β hp,RelD w β hp z zv)(hm:Qn true (S.ev m)=.pv (.lit (.map (some b))))(hL:(b,QdQ enc L)∈g)(hx:∀ (w:World) (β:Map) (hp:Qa) (v:Value),RelD w β hp (Qn true (S.ev x)) v->v=enc k)(hK:K (S.put o.dst (QcI o.guard true ((QhP L k).getD z))) g):Qmm P (Qdl c) o K S g:=fun O β a w hs=>by
 obtain⟨-,h2⟩:=hs.g.1.2 _ hL
 have em:=Qy5 hs m
 rw[hm] at em
 have ex:=hx _ _ _ _ (Qy5 hs x)
 obtain⟨v,r1,r2⟩:=Qes ht hk hz hzr h2 k false
 refine⟨v,w,.inl ?_,β,_,g,hs.put ⟨Jl _,fun _ _ _ _ h=>h⟩ hs.evo hf (Qat r2) hs.g,hK⟩
 simp only[execOp,hop,Qj em,ex]
 simp[r1,Result.andThen]
theorem Qhy{κ:Type}[DecidableEq κ]{enc:κ->Value}{c:QqM}{o:Oper}{K:St->MapsD->Prop}{g:MapsD}{m x:Operand}{b:Nat}{L:List (κ×DV)}{k:κ}{z:DV}{zv:Value}(hop:o.op=.lookup t m x true)(hf:S.fits o.dst=true)(ht:P.underlying t=some (.map kt et))(hk:KeyT P kt enc)(hz:∀ w,(zeroValue et).run P w=.ok zv w)(hzr:∀ w β hp,RelD w β hp z zv)(hm:Qn true (S.ev m)=.pv (.lit (.map (some b))))(hL:(b,QdQ enc L)∈g)(hx:∀ (w:World) (β:Map) (hp:Qa) (v:Value),RelD w β hp (Qn true (S.ev x)) v->v=enc k)(hK:K (S.put o.dst (QcI o.guard true (.tup [(QhP L k).getD z,.bool (QhP L k).isSome]))) g):Qmm P (Qdl c) o K S g:=fun O β a w hs=>by
 obtain⟨-,h2⟩:=hs.g.1.2 _ hL
 have em:=Qy5 hs m
 rw[hm] at em
 have ex:=hx _ _ _ _ (Qy5 hs x)
 obtain⟨v,r1,r2⟩:=Qes ht hk hz hzr h2 k true
 refine⟨.tuple #[v,.bool (QhP L k).isSome],w,.inl ?_,β,_,g,hs.put ⟨Jl _,fun _ _ _ _ h=>h⟩ hs.evo hf (Qat (.tup _ _ rfl fun i d hd=>?_)) hs.g,hK⟩
 ·simp only [execOp,hop,Qj em,ex]
  simp[r1,Result.andThen]
 ·match i with
  | 0=>simp at hd; subst hd; exact r2
  | 1=>simp at hd; subst hd; exact .pv _ _ (.lit _ rfl)
  | i+2=>simp at hd
theorem QjA [DecidableEq κ] (ht:P.underlying t = some (.map kt et)) (hk:KeyT P kt enc) (h:MapAt w β hp b (QdQ enc L)) (k:κ) (hd:RelD w β hp d v):
 ∃ es' clock',(Instr.mapUpdate t (.map (some b)) (enc k) v).run P w = .ok () { w with heap:=w.heap.setIfInBounds b (.map es' clock') }/\Stamped es' clock'/\es'.toList.map (·.key) = (QdQ enc (QiL L k d)).map (·.1) /\
   ∀ (i:Nat) (e:MapEntry) (p:Value×DV),es'.toList[i]?=some e->(QdQ enc (QiL L k d))[i]?=some p->RelD w β hp p.2 e.val:=by
 obtain⟨es,clock,h1,h2,h3,h4⟩:=h.at_
 have h3':es.toList.map (·.key)=(L.map (·.1)).map enc:=by rw[h3]; simp[QdQ]
 have hf:=hk.find w k es.toList (L.map (·.1)) h3'
 have hlen:es.toList.length=L.length:=by have:=congrArg Ky h3; simpa [QdQ] using this
 cases hi:(L.map (·.1)).findIdx? (fun x=>decide (x=k)) with
 | none =>
   obtain⟨p1,p2⟩:=Qs2 L k d hi
   rw[hi] at hf
   refine⟨es.push { key:=enc k,val:=v,born:=clock },clock+1,?_,stamped_push h2 (fun x hx he=>?_),?_,fun i e p q1 q2=>?_⟩
   ·unfold Instr.mapUpdate
    simp only[Sem.run_bind,run_underlying ht,Result.andThen,Go.MapKept.run_getObj_map h1,hk.check,hf,Option.bind_none,Go.MapKept.run_setObj_map _ h1]
   ·have:x.key ∈ (L.map (·.1)).map enc:=by rw [<- h3']; exact J9.2 ⟨x,hx,rfl⟩
    obtain⟨y,hy,e⟩:=J9.1 this
    obtain⟨q,hq,rfl⟩:=J9.1 hy
    exact p2 q hq (hk.inj _ _ (e.trans he))
   ·rw[p1]; simp[QdQ,h3']
   ·rw [p1] at q2
    simp only[QdQ,Kx,Js,K2] at q2
    simp only[Array.toList_push] at q1
    by_cases hlt:i<L.length
    ·rw [Ji (by omega)] at q1
     rw[Ji (by simpa using hlt)] at q2
     exact h4 i e p q1 q2
    ·rw [Jo (by omega)] at q1
     rw[Jo (by simp; omega)] at q2
     simp only[Jf] at q2
     have:i-L.length=0:=by
      cases hj:i-L.length with
      | zero=>rfl
      | succ j=>rw[hj] at q2; simp at q2
     rw[this] at q2
     rw[hlen,this] at q1
     simp at q1 q2
     subst q1; subst q2
     exact hd
 | some i =>
   obtain⟨p1,d0,p2⟩:=Qs1 L k d hi
   have hlt:i<L.length:=(Jc.1 p2).1
   have e2:es.toList[i]?=some es.toList[i]:=Jb (by omega)
   have hkey:es.toList[i].key=enc k:=by
    have:=congrArg (fun l=>l[i]?) h3'
    simp only[Jh,e2,p2,JD,KW.injEq] at this
    exact this
   rw[hi,Ku,e2] at hf
   have hm:∀ e∈es.toList,es[i]?=some e->enc k=e.key:=fun e _ he=>by
    have:es.toList[i]?=some e:=by simpa using he
    rw[e2] at this
    simp only[KW.injEq] at this
    rw[<- this,hkey]
   refine⟨es.modify i fun e=>{ e with key:=enc k,val:=v },clock,?_,stamped_modify h2 i _ (fun _ _=>rfl) (fun e h1 h2=>hm e h1 h2),?_,fun j e p q1 q2=>?_⟩
   ·have e1:((es[i]?).map (·.key)).getD (enc k) = enc k:=by
     have:es[i]?=some es.toList[i]:=by simp
     rw[this]; exact hkey
    unfold Instr.mapUpdate
    simp only[Sem.run_bind,run_underlying ht,Result.andThen,Go.MapKept.run_getObj_map h1,hk.check,hf,JD,e1,hk.stays,Go.MapKept.run_setObj_map _ h1]
   ·rw [modify_keys i _ (fun e he=>by
     have h':es.toList[i]?=some e:=by simpa using he
     exact hm e (List.mem_of_getElem? h') he),h3',p1]
    have hs:(L.set i (k,d)).map (·.1)=L.map (·.1):=by
     rw[Ud]
     apply Kl
     intro j
     rw[JS]
     split
     ·rename_i hij
      subst hij
      rw[if_pos (by simpa using hlt),Jh,p2]
      rfl
     ·rfl
    rw[<- hs]
    simp only[QdQ,Ug]
    rfl
   ·rw [p1] at q2
    by_cases hij:i=j
    ·subst hij
     have q1':(es.modify i fun e=>{ e with key:=enc k,val:=v })[i]?=some e:=by rw[<- Kp]; exact q1
     rw[KR,if_pos rfl] at q1'
     have e2':es[i]?=some es.toList[i]:=by simp
     rw[e2'] at q1'
     simp at q1'
     subst q1'
     simp[QdQ,JS,hlt] at q2
     subst q2
     exact hd
    ·have q1':(es.modify i fun e=>{ e with key:=enc k,val:=v })[j]? = some e:=by rw [<- Kp]; exact q1
     rw[KR,if_neg hij] at q1'
     refine h4 j e p (by simpa using q1') ?_
     simpa [QdQ,JS,hij] using q2
theorem QAL {O:Org} (hg:MapsD.At c g O.w w β hp) (hL:(b,L) ∈ g) (h1:Stamped es clock) (h2:es.toList.map (·.key) = L'.map (·.1)) (h3:∀ (i:Nat) (e:MapEntry) (p:Value × DV),es.toList[i]? = some e->L'[i]? = some p->RelD w β hp p.2 e.val):
 Up w { w with heap:=w.heap.setIfInBounds b (.map es clock) }/\(∀ {w0 β0 hp0},Evo w0 β0 hp0 w β hp->w0=O.w->Evo w0 β0 hp0 { w with heap:=w.heap.setIfInBounds b (.map es clock) } β hp)/\MapsD.At c (g.map fun p=>if p.1=b then (b,L') else p) O.w { w with heap:=w.heap.setIfInBounds b (.map es clock) } β hp:=by
 obtain⟨hb,h⟩:=hg.1.2 _ hL
 obtain⟨es0,clock0,q,_⟩:=h.at_
 obtain⟨s1,s2⟩:=Go.MapKept.heap_set (o':=.map es clock) q
 have hgr:w.grownBy { w with heap:=w.heap.setIfInBounds b (.map es clock) } (some b):=⟨rfl,rfl,rfl,by simp,fun i hi hne=>s2 i (fun e=>hne (by rw[e]))⟩
 have hr:∀ r,some b=some r->O.w.heap.size<=r/\∃ o:Obj,w.heap[r]?=some o/\o.isCells=false:=fun r e=>by cases e; exact⟨hb,_,q,rfl⟩
 have hu:Up w { w with heap:=w.heap.setIfInBounds b (.map es clock) }:=Up.grown hgr fun r e=>(hr r e).2
 refine⟨hu,fun {w0 β0 hp0} ev e=>?_,⟨⟨?_,fun p hp=>?_⟩,hg.2.trans (hu.toC _ _)⟩⟩
 ·subst e; exact ev.grown hgr hr
 ·have e:(g.map fun p=>if p.1 = b then (b,L') else p).map (·.1) = g.map (·.1):=by
   rw[Ug]
   refine List.map_congr_left fun p _=>?_
   simp only[Function.comp]
   split
   ·rename_i he; exact he.symm
   ·rfl
  rw[e]; exact hg.1.1
 ·obtain ⟨q',hq',rfl⟩:=J9.1 hp
  split
  ·exact⟨hb,es,clock,s1,h1,h2,fun i e p q1 q2=>(h3 i e p q1 q2).up hu⟩
  ·rename_i he
   obtain⟨k1,k2⟩:=hg.1.2 q' hq'
   exact⟨k1,k2.go (hu.toC _ _) (s2 _ he)⟩
theorem QoP{κ:Type}[DecidableEq κ]{enc:κ->Value}{c:QqM}{o:Oper}{K:St->MapsD->Prop}{g:MapsD}{m x y:Operand}{b:Nat}{L:List (κ×DV)}{k:κ}(hop:o.op=.mapUpdate t m x y)(hf:S.fits o.dst=true)(ht:P.underlying t=some (.map kt et))(hk:KeyT P kt enc)(hm:Qn true (S.ev m)=.pv (.lit (.map (some b))))(hL:(b,QdQ enc L)∈g)(hx:∀ (w:World) (β:Map) (hp:Qa) (v:Value),RelD w β hp (Qn true (S.ev x)) v->v=enc k)(hK:K (S.put o.dst (QcI o.guard true (.tup []))) (g.map fun p=>if p.1=b then (b,QdQ enc (QiL L k (Qn true (S.ev y)))) else p)):Qmm P (Qdl c) o K S g:=fun O β a w hs=>by
 obtain⟨h1,h2⟩:=hs.g.1.2 _ hL
 have em:=Qy5 hs m
 rw[hm] at em
 have ex:=hx _ _ _ _ (Qy5 hs x)
 have ey:=Qy5 hs y
 obtain⟨es',clock',r1,r2,r3,r4⟩:=QjA ht hk h2 k ey
 obtain⟨u1,u2,u3⟩:=QAL (L':=QdQ enc (QiL L k (Qn true (S.ev y)))) hs.g hL r2 r3 r4
 refine⟨undef,_,.inr ⟨?_,rfl⟩,β,_,_,hs.put u1 (u2 hs.evo rfl) hf (Qat (.tup [] #[] rfl (by simp))) u3,hK⟩
 simp only[execOp,hop,Qj em,ex]
 simp[r1,Result.andThen]
end Go.V
namespace Go.V
variable {P:Program} {γ:Type} {Γ:γ->World->World->Map->Qa->Prop} {ops:Array Oper}
def QaX(ops:Array Oper)(i:Nat):List Nat:=match ops[i]? with | some o=>(o.after.toList.filter fun e=>Region.binds .any e).map (·.on) | none=>[]
def Qmf(ops:Array Oper):Nat->Nat->List Nat
 | 0,_=>[]
 | f+1,i=>QaX ops i++(QaX ops i).flatMap (Qmf ops f)
def QmP(ops:Array Oper)(k f:Nat):Bool:=
 decide (k<ops.size)&&(JC ops.size).all (fun i=>(QaX ops i).all fun j=>decide (j<i)) &&
 (JC k).all (fun i=>(Qmf ops f k).contains i) &&
 (JC ops.size).all fun j=>decide (j<=k)||((Qmf ops f j).contains k&&match ops[j]? with | some o=>o.guard.isNone | none=>false)
structure SplitOk(ops:Array Oper)(k f:Nat):Prop where
 lt:k<ops.size
 back:∀ i,i<ops.size->∀ j∈QaX ops i,j<i
 pre:∀ i,i<k->i∈Qmf ops f k
 post:∀ j,k<j->j<ops.size->k∈Qmf ops f j/\∃ o,ops[j]?=some o/\o.guard=none
theorem QkT(h:QmP ops k f=true):SplitOk ops k f:=by
 simp only[QmP,Jr,decide_eq_true_eq] at h
 obtain⟨⟨⟨h1,h2⟩,h3⟩,h4⟩:=h
 refine⟨h1,fun i hi j hj=>?_,fun i hi=>?_,fun j hj hlt=>?_⟩
 ·have:=J1.1 (J1.1 h2 i (JT.2 hi)) j hj
  simpa using this
 ·have:=J1.1 h3 i (JT.2 hi)
  simpa using this
 ·have:=J1.1 h4 j (JT.2 hlt)
  simp only[J4,decide_eq_true_eq,Jr] at this
  rcases this with this | ⟨e1,e2⟩
  ·omega
  ·refine ⟨by simpa using e1,ops[j],JE hlt,?_⟩
   rw[JE hlt] at e2
   simpa using e2
def ClosedL(ops:Array Oper)(L:Array Bool):Prop:=∀ i,L.getD i false=true->∀ j∈QaX ops i,L.getD j false=true
theorem QdM (hc:ClosedL ops L):∀ (f i:Nat),(∀ j ∈ QaX ops i,L.getD j false = true)->∀ j ∈ Qmf ops f i,L.getD j false = true
 | 0,_,_,j,hj=>by simp[Qmf] at hj
 | f + 1,i,h,j,hj=>by
   simp only[Qmf,Kz,List.mem_flatMap] at hj
   rcases hj with hj | ⟨m,hm,hj⟩
   ·exact h j hj
   ·exact QdM hc f m (hc m (h m hm)) j hj
theorem mem_ready':i∈Region.ready .any ops L ↔ i<ops.size/\L.getD i true=false/\∀ j∈QaX ops i,L.getD j false=true:=by
 rw[mem_ready]
 constructor
 ·rintro ⟨h1,o,ho,h2⟩
  refine⟨(Ja.1 ho).1,h1,fun j hj=>?_⟩
  simp only[QaX,ho,J9,Ua] at hj
  obtain⟨e,⟨he,hb⟩,rfl⟩:=hj
  exact h2 e (by simpa using he) hb
 ·rintro ⟨h1,h2,h3⟩
  refine⟨h2,ops[i],JE h1,fun e he hb=>h3 _ ?_⟩
  simp only[QaX,JE h1,J9,Ua]
  exact⟨e,⟨by simpa using he,hb⟩,rfl⟩
theorem ClosedL.set(hc:ClosedL ops L)(hi:i<L.size)(hp:∀ j∈QaX ops i,L.getD j false=true):ClosedL ops (L.setIfInBounds i true):=fun m hm j hj=>by
 by_cases e:i=m
 ·subst e
  exact getD_set_true (hp j hj)
 ·rw [getD_set_ne false e] at hm
  exact getD_set_true (hc m hm j hj)
theorem QqA (hback:∀ i,i < ops.size->∀ j ∈ QaX ops i,j < i) (hs:L.size = ops.size) (hn:n<=ops.size) (h:∀ i,i < n->i ∉ Region.ready .any ops L):∀ i,i < n->L.getD i false = true:=by
 intro i
 induction i using KB with
 | _ i ih =>
   intro hlt
   cases hl:L.getD i false with
   | true=>rfl
   | false =>
     refine absurd (mem_ready'.2 ⟨by omega,?_,fun j hj=>?_⟩) (h i hlt)
     ·have:i < L.size:=by omega
      simpa [this] using hl
     ·have:=hback i (by omega) j hj
      exact ih j this (by omega)
theorem Qm4(hi:i<k):((ops.toList.take k).toArray)[i]?=ops[i]?:=by
 simp[hi]
theorem Qs5(hi:i<k):QaX (ops.toList.take k).toArray i=QaX ops i:=by unfold QaX; rw[Qm4 hi]
theorem QnL {o:Oper} (h:∀ a w,K a w->K' a w) (hq:∀ e a w,e ≠ .normal->Q e a w->Q' e a w) (hh:o.wp P a w K Q):o.wp P a w K' Q':=by
 unfold Oper.wp at *
 generalize (execOp a.eval o).run P w=r at *
 cases r with
 | ok n w' =>
   cases n<;>simp only[Oper.upon] at hh |- <;>
    first
     | exact h _ _ hh
     | exact Calls.mono hh (fun e w'' he=>by cases e<;>first | exact h _ _ he | exact hq _ _ _ (by simp) he | exact(let ⟨a1,w1,h1⟩:=(he:LetsOut Q); (⟨a1,w1,hq _ _ _ (by simp) h1⟩:LetsOut Q')))
     | exact Rows.mono hh (fun _ _ he=>h _ _ he)
 | halt x w'=>cases x<;>simp only[Oper.upon] at hh |-<;>first | exact hq _ _ _ (by simp) hh | exact hh
theorem Qip:∀ (n:Nat) (L:Array Bool) (a:Act) (w:World),wpAny P .any ops Q n L a w->wpAny P .any ops Q (n+1) L a w
 | 0,L,a,w,h=>⟨fun _=>h.2,fun i hi=>by rw[h.1] at hi; (cases hi)⟩
 | n+1,L,a,w,h=>⟨h.1,fun i hi=>wpOp_mono (fun a w=>Qip n _ a w) (h.2 i hi)⟩
theorem Qiq(h:wpAny P .any ops Q n L a w):∀ m,wpAny P .any ops Q (m+n) L a w
 | 0=>by rw[Jz]; exact h
 | m+1=>by rw[show m+1+n=(m+n)+1 by omega]; exact Qip _ _ _ _ (Qiq h m)
theorem QCg (sp:SplitOk ops k f) (hg:∀ i,i < k->∀ o,ops[i]? = some o->o.guard = none\/∃ j b,o.guard = some (j,b)/\j < k) (hq1:∀ e a w,Q1 e a w->e = .normal) (hN:∀ (L:Array Bool),L.size = ops.size->(∀ i,L.getD i false = decide (i < k))->∀ a w,Q1 .normal a w->wpOp P ops Q k (wpAny P .any ops Q m (L.setIfInBounds k true)) a w):
 ∀ (fuel:Nat) (L L1:Array Bool) (a:Act) (w:World),L.size = ops.size->L1.size = k->(∀ i,i < k->L1.getD i false = L.getD i false)->ClosedL ops L->(∀ i,k<=i->L.getD i false = false) ->
   wpAny P .any (ops.toList.take k).toArray Q1 fuel L1 a w->wpAny P .any ops Q (fuel+(m+1)) L a w:=by
 have hsz:(ops.toList.take k).toArray.size=k:=by have:=sp.lt; simp; omega
 have rd:∀ (L L1:Array Bool),L.size = ops.size      -> L1.size = k->(∀ i,i < k->L1.getD i false = L.getD i false)->∀ i,i < k->(i ∈ Region.ready .any (ops.toList.take k).toArray L1 ↔ i ∈ Region.ready .any ops L):=by
  intro L L1 h1 h2 h3 i hi
  have hlt:i<ops.size:=KQ hi sp.lt
  rw[mem_ready',mem_ready',hsz,Qs5 hi]
  have e1:L1.getD i true = L1.getD i false:=by     have:i < L1.size:=by omega
                                                   simp[this]
  have e2:L.getD i true = L.getD i false:=by     have:i < L.size:=by omega
                                                 simp[this]
  rw[e1,e2,h3 i hi]
  constructor
  ·rintro⟨_,a,b⟩; exact⟨hlt,a,fun j hj=>by rw[<- h3 j (KQ (sp.back i hlt j hj) hi)]; exact b j hj⟩
  ·rintro⟨_,a,b⟩; exact⟨hi,a,fun j hj=>by rw[h3 j (KQ (sp.back i hlt j hj) hi)]; exact b j hj⟩
 have fin:∀ (x:Nat) (L L1:Array Bool) (a:Act) (w:World),L.size = ops.size->L1.size = k->(∀ i,i < k->L1.getD i false = L.getD i false)->ClosedL ops L->(∀ i,k<=i->L.getD i false = false) ->
  Region.ready .any (ops.toList.take k).toArray L1=[]->Q1 .normal a w->(∀ i,i<ops.size->i∈Region.ready .any ops L->i=k)/\k∈Region.ready .any ops L/\wpOp P ops Q k (wpAny P .any ops Q m (L.setIfInBounds k true)) a w:=by
  intro x L L1 a w h1 h2 h3 h4 h5 h6 h7
  have hall:∀ i,i<k->L.getD i false=true:=QqA (n:=k) sp.back h1 (Uh sp.lt) fun i hi hm=>by
   have:=(rd L L1 h1 h2 h3 i hi).2 hm
   rw[h6] at this
   cases this
  have hL:∀ i,L.getD i false=decide (i<k):=fun i=>by
   by_cases hi:i<k
   ·rw[hall i hi,decide_eq_true hi]
   ·rw[h5 i (by omega),decide_eq_false hi]
  have hk:k∈Region.ready .any ops L:=by
   have hks:k<L.size:=by rw[h1]; exact sp.lt
   refine mem_ready'.2 ⟨sp.lt,?_,fun j hj=>hall j (sp.back k sp.lt j hj)⟩
   have h':=h5 k (Jl _)
   simpa [hks] using h'
  refine⟨fun i hi hm=>?_,hk,hN L h1 hL a w h7⟩
  obtain⟨r1,r2,r3⟩:=mem_ready'.1 hm
  have hi':i<L.size:=by omega
  have hu:L.getD i false=false:=by simpa [hi'] using r2
  rw[hL] at hu
  by_cases hik:i=k
  ·exact hik
  ·have hki:k < i:=by
    have:¬ i<k:=by simpa using hu
    omega
   have:=QdM h4 f i r3 k (sp.post i hki hi).1
   rw[hL] at this
   simp at this
 have step:∀ (n:Nat) (L L1:Array Bool) (a:Act) (w:World),n=m->L.size=ops.size->L1.size=k->(∀ i,i<k->L1.getD i false=L.getD i false)->ClosedL ops L->(∀ i,k<=i->L.getD i false=false) ->
  Region.ready .any (ops.toList.take k).toArray L1=[]->Q1 .normal a w->wpAny P .any ops Q (n+1) L a w:=by
  intro n L L1 a w e h1 h2 h3 h4 h5 h6 h7
  subst e
  obtain⟨g1,g2,g3⟩:=fin 0 L L1 a w h1 h2 h3 h4 h5 h6 h7
  refine⟨fun h=>by rw[h] at g2; (cases g2),fun i hi=>?_⟩
  have:=g1 i (mem_ready'.1 hi).1 hi
  subst this
  exact g3
 intro fuel
 induction fuel with
 | zero =>
   intro L L1 a w h1 h2 h3 h4 h5 h
   rw[Jz]
   exact step m L L1 a w rfl h1 h2 h3 h4 h5 h.1 h.2
 | succ fuel ih =>
   intro L L1 a w h1 h2 h3 h4 h5 h
   by_cases hr:Region.ready .any (ops.toList.take k).toArray L1=[]
   ·exact Qiq (step m L L1 a w rfl h1 h2 h3 h4 h5 hr (h.1 hr)) (fuel+1)
   ·obtain ⟨j,hj⟩:=List.exists_mem_of_ne_nil _ hr
    have hjk:j<k:=by have:=(mem_ready'.1 hj).1; rw[hsz] at this; exact this
    have hju:L.getD j false=false:=by
     have hj1:j<L1.size:=by omega
     have:=(mem_ready'.1 hj).2.1
     rw[<- h3 j hjk]
     simpa [hj1] using this
    rw[show fuel+1+(m+1)=(fuel+(m+1))+1 by omega]
    refine⟨fun hn=>?_,fun i hi=>?_⟩
    ·have:=(rd L L1 h1 h2 h3 j hjk).1 hj
     rw[hn] at this
     cases this
    ·obtain ⟨r1,r2,r3⟩:=mem_ready'.1 hi
     have hik:i<k:=by
      by_cases hlt:i<k
      ·exact hlt
      ·exfalso
       by_cases he:i=k
       ·subst he
        have:=QdM h4 f i r3 j (sp.pre j hjk)
        rw[hju] at this
        cases this
       ·have:=QdM h4 f i r3 k (sp.post i (by omega) r1).1
        rw[h5 k (Jl _)] at this
        cases this
     have hi1:=h.2 i ((rd L L1 h1 h2 h3 i hik).2 hi)
     have ho:ops[i]?=some ops[i]:=JE r1
     have hiL:i<L.size:=by omega
     have hiL1:i<L1.size:=by omega
     unfold wpOp at hi1 |-
     rw[Qm4 hik,ho] at hi1
     rw[ho]
     dsimp only at hi1 |-
     have hw:Region.wanted ops[i] (yielded (ops.toList.take k).toArray a.tmps)=Region.wanted ops[i] (yielded ops a.tmps):=by
      unfold Region.wanted
      rcases hg i hik _ ho with e | ⟨j',b,e,hj'⟩
      ·rw[e]
      ·rw[e]; simp only[yielded,Qm4 hj']
     rw[hw] at hi1
     have go:∀ a w,wpAny P .any (ops.toList.take k).toArray Q1 fuel (L1.setIfInBounds i true) a w->wpAny P .any ops Q (fuel+(m+1)) (L.setIfInBounds i true) a w:=fun a w hh=>
      ih (L.setIfInBounds i true) (L1.setIfInBounds i true) a w (by simpa using h1) (by simpa using h2) (fun x hx=>by
       by_cases e:i=x
       ·subst e; simp[hiL,hiL1]
       ·rw[getD_set_ne false e,getD_set_ne false e]; exact h3 x hx) (h4.set hiL r3) (fun x hx=>by rw[getD_set_ne false (by omega)]; exact h5 x hx) hh
     split at hi1
     ·rename_i hww
      rw[if_pos hww]
      rcases hi1 with hi1 | ⟨e1,a1,w1,e2⟩
      ·exact .inl (QnL go (fun e a w hne hq=>absurd (hq1 e a w hq) hne) hi1)
      ·exact absurd (hq1 _ _ _ e2) (by simp)
     ·rename_i hww
      rw[if_neg hww]
      exact go _ _ hi1
def Qpp:Oper:={ dst:=none,op:=.move (.const (.bool true)),type:=0,pos := "", after:=#[],guard:=none }
def Qav(ops:Array Oper)(k:Nat):Array Oper:=(JF (k+1) Qpp++ops.toList.drop (k+1)).toArray
theorem QhI(h:k<ops.size):(Qav ops k).size=ops.size:=by simp[Qav]; omega
theorem QhJ(h:k<i):(Qav ops k)[i]?=ops[i]?:=by
 simp only[Qav,Kq]
 rw[Jo (by simp; omega),KZ,<- Kp]
 congr 1
 rw[Jj]
 omega
theorem Qi3(h:i<=k):(Qav ops k)[i]?=some Qpp:=by
 simp only[Qav,Kq]
 rw[Ji (by simp; omega),KL,if_pos (by omega)]
theorem Qqy(sp:SplitOk ops k f):∀ (fuel:Nat) (L:Array Bool) (a:Act) (w:World),L.size=ops.size->(∀ i,i<=k->L.getD i false=true)->wpAny P .any (Qav ops k) Q fuel L a w->wpAny P .any ops Q fuel L a w:=by
 have rd:∀ (L:Array Bool),L.size=ops.size->(∀ i,i<=k->L.getD i false=true)->Region.ready .any (Qav ops k) L=Region.ready .any ops L:=by
  intro L hL h
  unfold Region.ready
  rw[QhI sp.lt]
  refine List.filter_congr fun i hi=>?_
  by_cases hik:i<=k
  ·have hiL:i < L.size:=by rw [hL]; exact JT.1 hi
   have:=h i hik
   have e:L.getD i true=true:=by simpa [hiL] using this
   simp[e]
  ·rw[QhJ (by omega)]
 intro fuel
 induction fuel with
 | zero=>intro L a w h1 h2 h; exact⟨by rw[<- rd L h1 h2]; exact h.1,h.2⟩
 | succ fuel ih =>
   intro L a w h1 h2 h
   have e:=rd L h1 h2
   refine⟨fun hr=>h.1 (by rw[e]; exact hr),fun i hi=>?_⟩
   have hi1:=h.2 i (by rw[e]; exact hi)
   obtain⟨r1,r2,r3⟩:=mem_ready'.1 hi
   have hik:k<i:=by
    by_cases hlt:k<i
    ·exact hlt
    ·have:=h2 i (by omega)
     have hiL:i<L.size:=by omega
     have hx:L.getD i true=true:=by simpa [hiL] using this
     rw[hx] at r2
     cases r2
   obtain⟨-,o,ho,hg⟩:=sp.post i hik r1
   unfold wpOp at hi1 |-
   rw[QhJ hik,ho] at hi1
   rw[ho]
   dsimp only at hi1 |-
   have hw:∀ y,Region.wanted o y=true:=fun y=>by simp[Region.wanted,hg]
   rw[hw,if_pos rfl] at hi1 |-
   have go:∀ a w,wpAny P .any (Qav ops k) Q fuel (L.setIfInBounds i true) a w->wpAny P .any ops Q fuel (L.setIfInBounds i true) a w:=fun a w hh=>
    ih _ a w (by simpa using h1) (fun x hx=>by rw[getD_set_ne false (by omega)]; exact h2 x hx) hh
   exact hi1.imp (fun hi1=>QnL go (fun e a w _ hq=>hq) hi1) id
theorem Qiw(S:St):Qmk P all S Qpp S ([],false):=by
 refine⟨rfl,true,rfl,.inr (.inl ⟨.bool true,S.hp,rfl,rfl,rfl,rfl,rfl⟩)⟩
theorem Ql7{L:Array Bool}(h:k<n)(hL:∀ i,i<=k->L.getD i false=true):(JC n).countP (fun i=>!L.getD i false)<=n-k-1:=by
 have e:JC n=JC (k+1)++J2 (k+1) (n-k-1):=by
  have e:=Kv (s:=0) (m:=k+1) (n:=n-k-1)
  rw[Jz] at e
  rw[J7,J7,e]
  congr 1
  omega
 rw[e,List.countP_append]
 have h0:(JC (k+1)).countP (fun i=>!L.getD i false)=0:=by
  rw[List.countP_eq_zero]
  intro i hi
  have:=hL i (by have:=JT.1 hi; omega)
  simp only[this]
  decide
 have h1:=Ko (p:=fun i=>!L.getD i false) (l:=J2 (k+1) (n-k-1))
 simp only[List.length_range'] at h1
 omega
theorem QCf(sp:SplitOk ops k f)(hB:QdU (Qav ops k)=true)(hK:∀ β S a w,Sim O β S a w->K S->Q .normal a w)(h:vdr P (Qav ops k).toList (ops.toList.drop (k+1)) (JF (k+1) ([],false)) K S)(hL:L.size=ops.size)(hLk:∀ i,L.getD i false=decide (i<=k))(hs:Sim O β S a w):wpAny P .any ops Q (ops.size-k-1) L a w:=by
 obtain⟨T,F,t1,t2,t3,t4⟩:=QcU (ops.toList.drop (k+1)) (JF (k+1) Qpp) (JF (k+1) ([],false)) S rfl (by simp) h
 simp only[Jj] at t2 t4
 have hF:∀ i,i<=k->F i=([],false):=fun i hi=>t1 i _ (by rw[KL,if_pos (by omega)])
 have hsz:=QhI sp.lt
 have hlist:(Qav ops k).toList.length=ops.size:=by rw[<- hsz]; simp
 obtain⟨T',hT'⟩:∃ T':Nat->St,T'=fun j=>if j<=k then S else T j:=⟨_,rfl⟩
 have e1:∀ j,j<=k->T' j=S:=fun j hj=>by rw[hT']; exact if_pos hj
 have e2:∀ j,k<j->T' j=T j:=fun j hj=>by rw[hT']; exact if_neg (by omega)
 have hsteps:Steps P (Qav ops k) T' F:=⟨fun j hj=>by
  by_cases hjk:j<=k
  ·refine ⟨Qpp,Qi3 hjk,?_,fun i _ hc=>?_⟩
   ·rw [e1 j hjk,hF j hjk]
    by_cases hj1:j+1<=k
    ·rw[e1 _ hj1]; exact Qiw S
    ·rw[e2 _ (by omega),show j+1=k+1 by omega,t2]; exact Qiw S
   ·rw [hF j hjk] at hc
    obtain⟨_,x,_,hx⟩:=hc
    simp at hx
  ·obtain ⟨o,g1,g2,g3⟩:=t4 j (by omega) (by simp only [Jg,Jj,Jt,Array.length_toList]; omega)
   refine⟨o,by simp only[Qav,Kq]; exact g1,?_,g3⟩
   rw[e2 j (by omega),e2 (j+1) (by omega)]
   exact g2,hB⟩
 refine Qqy sp _ _ _ _ hL (fun i hi=>by rw[hLk,decide_eq_true hi]) ?_
 refine Qb1 (O:=O) hsteps (fun β a w hk=>hK β _ a w hk ?_) _ L a w β S ?_ hs ?_
 ·rw [hsz,e2 _ sp.lt,<- hlist]
  exact t3
 ·rw [hsz]
  exact Ql7 sp.lt fun i hi=>by rw[hLk,decide_eq_true hi]
 ·have k1:T' (k + 1) = S:=by rw [e2 _ (by omega),t2]
  have k0:T' 0=S:=e1 0 (JG _)
  refine⟨hL.trans hsz.symm,by rw[k0],by rw[k0],by rw[k0],fun i o ho hl e he=>?_,fun t=>⟨k+1,by rw[hsz]; exact sp.lt,by rw[k1],fun i hi _=>by rw[hLk,decide_eq_true (by omega)],fun i hi _=>by rw[hLk,decide_eq_false (by omega)]⟩,
   fun t=>⟨k+1,by rw[hsz]; exact sp.lt,by rw[k1],fun i hi _=>by rw[hLk,decide_eq_true (by omega)],fun i hi _ _=>by rw[hLk,decide_eq_false (by omega)]⟩⟩
  rw[hLk] at hl
  rw[Qi3 (by simpa using hl)] at ho
  cases ho
  simp[Qpp] at he
def QEH(P:Program)(ops:Array Oper)(K:St->Prop)(S:St):Prop:=∀ (O:Org) (β:Map) (a:Act) (w:World),Sim O β S a w->wpAny P .any ops (QlC O fun e S=>e=.normal/\K S) ops.size (Jp ops.size false) a { w with drawn:=w.drawn+1 }
theorem Qqz(H0:List Nat)(segs:List Seg)(hok:QgR ops H0 segs=true)(h:Qah P ops.toList (pick ops.toList H0) (vsp P ops.toList segs K) S):QEH P ops K S:=fun _ _ _ _ hs=>
 Qe6 (Q:=fun e S=>e=.normal/\K S) H0 segs hok (by simpa using h) hs
theorem Qgu (hB:QdU ops = true) (h:vdr P ops.toList ops.toList [] K S):QEH P ops K S:=by
 intro O β a w hs
 obtain⟨T,F,_,h2,h3,h4⟩:=QcU ops.toList [] [] S rfl rfl h
 simp only[Je] at h2
 have hsteps:Steps P ops T F:=⟨fun j hj=>by
  obtain⟨o,e1,e2,e3⟩:=h4 j (JG _) (by simpa using hj)
  exact⟨o,by simpa using e1,e2,e3⟩,hB⟩
 have hs':Sim O β (T 0) a { w with drawn:=w.drawn+1 }:=by
  rw[h2]
  have e:Evo w β S.hp w.drew β S.hp:=Qbg w β S.hp
  exact⟨hs.defers,hs.size,fun t=>(hs.tm t).mono e,hs.heap.drew,hs.evo.trans e,hs.base⟩
 refine Qb1 (O:=O) hsteps (fun β a w hk=>⟨β,_,hk,rfl,by simpa using h3⟩) ops.size (Jp ops.size false) a _ β (T 0) ?_ hs' ?_
 ·have:=Ko (p:=fun i=>!(Jp ops.size false).getD i false) (l:=JC ops.size)
  simpa using this
 ·have hfalse:∀ i,(Jp ops.size false).getD i false = false:=fun i=>by
   by_cases hi:i<ops.size
   ·simp[hi]
   ·simp[hi]
  refine⟨by simp,rfl,rfl,rfl,fun i o _ hl=>?_,fun t=>⟨0,JG _,rfl,fun i hi=>absurd hi (Kh _),fun i _ _=>hfalse i⟩,fun k=>⟨0,JG _,rfl,fun i hi=>absurd hi (Kh _),fun i _ _ _=>hfalse i⟩⟩
  rw[hfalse] at hl
  cases hl
def QxA(ops:Array Oper)(k:Nat):Bool:=(JC k).all fun i=>match ops[i]? with
 | some o=>(match o.guard with | none=>true | some (j,_)=>decide (j<k))
 | none=>true
def QEP(P:Program)(ops:Array Oper)(k:Nat)(K:St->Prop)(S:St):Prop:=vdr P (Qav ops k).toList (ops.toList.drop (k+1)) (JF (k+1) ([],false)) K S
theorem VWpG.drawn (hΓ:∀ g,Stable (Γ g)) {id k f:Nat} (hm:P.follows .mixedOrders = true) (hs:QmP ops k f = true) (hgd:QxA ops k = true) (hB:QdU (Qav ops k) = true) (hk':ops.toList[k]? = some o) (h:QEH P (ops.toList.take k).toArray (fun S1=>QC ops.toList S1 o = some true /\
  Qmm P Γ o (fun S2 g2=>QEP P ops k (fun S3=>Q .normal S3 g2) S2.reb) S1 g) S.reb):VWpG P Γ (.region id ops true) Q S g:=fun O β a w hw=>by
 have sp:=QkT hs
 have hk:ops[k]?=some o:=by simpa using hk'
 have hg:∀ i,i<k->∀ o,ops[i]?=some o->o.guard=none\/∃ j b,o.guard=some (j,b)/\j<k:=fun i hi o ho=>by
  have:=J1.1 hgd i (JT.2 hi)
  rw[ho] at this
  dsimp only at this
  cases hgo:o.guard with
  | none=>exact .inl rfl
  | some jb=>obtain⟨j,b⟩:=jb; rw[hgo] at this; exact .inr ⟨j,b,rfl,by simpa using this⟩
 have hsz:(ops.toList.take k).toArray.size=k:=by have:=sp.lt; simp; omega
 refine wp_region_any hm ?_
 have h1:=h _ _ _ _ hw.reb
 rw[hsz] at h1
 have e:ops.size=k+((ops.size-k-1)+1):=by have:=sp.lt; omega
 have hfalse:∀ n i,(Jp n false).getD i false=false:=fun n i=>by
  by_cases hi:i<n<;>simp[hi]
 have key:=QCg (P:=P) (Q:=Qtu Γ O Q) (m:=ops.size-k-1) sp hg (fun e a w hq=>by obtain⟨_,_,_,hq,_⟩:=hq; exact hq) (fun L hL hLk a1 w1 hq=>?_) k (Jp ops.size false) (Jp k false) a { w with drawn:=w.drawn+1 } (by simp) (by simp) (fun i hi=>by rw[hfalse,hfalse]) (fun i hi=>by rw[hfalse] at hi; cases hi) (fun i _=>hfalse _ i) h1
 ·rw [<- e] at key
  exact key
 ·obtain ⟨β1,S1,hs1,-,hg1,hd⟩:=hq
  have hw1:=hw.on (hΓ g) hs1
  unfold wpOp
  rw[hk]
  dsimp only
  rw[Qgx hw1 hg1,if_pos rfl]
  refine .inl ?_
  obtain⟨v,w',hrun,β',S',g',h2,h3⟩:=hd O β1 a1 w1 hw1
  have nxt:wpAny P .any ops (Qtu Γ O Q) (ops.size-k-1) (L.setIfInBounds k true) (a1.put o.dst v) w':=by
   refine QCf (O:=⟨w',β',S'.hp,(a1.put o.dst v).defers⟩) sp hB (K:=fun S3=>Q .normal S3 g') (fun β3 S3 a3 w3 hs3 hq3=>⟨β3,S3,g',h2.on (hΓ g') hs3,hq3⟩) h3 (by simpa using hL) (fun i=>?_) h2.reb
   by_cases hik:k=i
   ·subst hik
    have:k<L.size:=by rw[hL]; exact sp.lt
    simp[this]
   ·rw [getD_set_ne false hik,hLk]
    congr 1
    exact propext ⟨fun h=>Uh h,fun h=>by omega⟩
  unfold Oper.wp
  rcases hrun with hrun | ⟨hrun,rfl⟩
  ·rw[hrun]; exact nxt
  ·rw[hrun]; exact nxt
end Go.V
namespace Go.V
variable {P:Program}
structure VCallsG(P:Program)(g:FuncId)(args:List DV)(h:Qa)(gh:MapsD)(R:DV->Qa->MapsD->Prop):Prop where
 fn:∃ fn,P.funcs[g]?=some fn/\(fn.name == "runtime.NumGoroutine")=false/\fn.body.isNone=false
 run:∀ (O:Org) (w:World) (β:Map) (vs:Array Value),Evo O.w O.β O.hp w β h->HeapRel w β h->RelL w β h args vs->Qzd gh O.w w β h ->
  Calls P g vs w fun e w'=>∃ v r h' β' gh',e=.returned v/\Evo O.w O.β O.hp w' β' h'/\HeapRel w' β' h'/\RelD w' β' h' r v/\MapsD.At (w,β,h) gh' O.w w' β' h'/\R r h' gh'
theorem VCallsG.mono(c:VCallsG P g args h gh R)(hr:∀ r h' gh',R r h' gh'->R' r h' gh'):VCallsG P g args h gh R':=
 ⟨c.fn,fun O w β vs a1 a2 a3 a4=>(c.run O w β vs a1 a2 a3 a4).mono fun _ _ ⟨v,r,h',β',gh',k1,k2,k3,k4,k5,k6⟩=>⟨v,r,h',β',gh',k1,k2,k3,k4,k5,hr _ _ _ k6⟩⟩
theorem QjN (hG:QC ops.toList S o = some true) (hf:S.fits o.dst = true) (hc:Qm (fun x=>Qn true (S.ev x)) o.op = some (f,args)) (hcalls:VCallsG P f args S.hp g R) (hK:∀ r h' g',R r h' g'->K ((S.at h').put o.dst (QcI o.guard true r)) g'):OpG P (Qdl c) ops o K S g:=fun n Q next O β a w hs hn=>by
 rw[Qgx hs hG,if_pos rfl]
 have hnd:=QdS hc
 have hev:∀ x,RelD w β S.hp (Qn true (S.ev x)) (a.eval x):=Qy5 hs
 unfold Qm at hc
 split at hc
 ·rename_i cl hop
  split at hc
  ·rename_i fo hcal
   split at hc
   ·rename_i g' first cap hfn
    simp at hc
    obtain⟨rfl,rfl⟩:=hc
    have hf':RelD w β S.hp ((fun x=>Qn true (S.ev x)) fo) (a.eval fo):=hev fo
    rw[hfn] at hf'
    generalize hv:a.eval fo=fv at hf'
    cases hf' with
    | fn _ _ _ vs us l1 l2 r1 r2 =>
      have hrel:RelL w β S.hp (first++cl.args.toList.map (fun x=>Qn true (S.ev x))++cap) (vs++cl.args.map a.eval++us):=Qa8 (Qa8 ⟨l1,r1⟩ (Qey hev cl.args)) ⟨l2,r2⟩
      obtain⟨fn,h1,h2,h3⟩:=hcalls.fn
      have h4:=hcalls.run O w β (vs++cl.args.map a.eval++us) hs.evo hs.heap (by simpa using hrel) hs.g.1
      have hrun:(execOp a.eval o).run P w=.ok (.enter g' (vs++cl.args.map a.eval++us)) w:=by
       simp[execOp,hop,resolve,hcal,hv,Deferred.ofValue,invoke,Qbo h1 h2 h3]
      refine⟨fun _ _=>trivial,?_⟩
      rw[Oper.semAt_plain _ _ _ hnd,hrun,Oper.uponIn_enter]
      refine⟨fun h=>by simp[Fence.wide] at h,CallsIn.mono (F:=wd none) (callsIn_wide.2 h4) ?_⟩
      rintro e w' ⟨v,r,h',β',gh',rfl,k1,k2,k3,k4,k5⟩
      refine hn β' _ gh' _ w' ?_ (hK r h' gh' k5)
      refine⟨by rw[QbH]; exact hs.defers,by rw[QcB,St.put_nt]; exact hs.size,fun t=>?_,by rw[St.put_hp]; exact k2,by rw[St.put_hp]; exact k1,by rw[St.put_hp]; exact⟨k4.1,hs.g.2.trans k4.2⟩⟩
      rw[St.put_hp]
      have hd:=Qat (g:=o.guard) k3
      cases hdst:o.dst with
      | none=>exact(hs.tm t).monoC k4.2
      | some t0 =>
        have hlt:t0<a.tmps.size:=by rw[hs.size]; rw[hdst] at hf; simpa [St.fits] using hf
        simp only[St.put,look,Act.put,St.at]
        split
        ·rename_i e
         subst e
         simpa [Jq,hlt] using hd
        ·rename_i e
         have:=(hs.tm t).monoC k4.2
         simpa [Jq,Kw,e] using this
   ·simp at hc
  ·simp at hc
 ·simp at hc
def Qks (P:Program) (rs:List ResultVar) (R:DV->Qa->MapsD->Prop) (e:Exit) (S:St) (g:MapsD):Prop :=
 match e with
 | .normal | .ret=>match QD P S rs with
   | some d=>R d S.hp g
   | none=>False
 | _=>False
theorem Qo8:Qks P rs R .ret S g=Qar P rs (fun d h=>R d h g) .ret S:=by
 unfold Qks Qar; cases QD P S rs<;>rfl
theorem Qfb (hf:P.funcs[g]? = some fn) (hb:fn.body = some cd) (hname:(fn.name == "runtime.NumGoroutine") = false) (hn:args.length<=fn.ntmps) (hc:∀ c:QqM,VWpG P (Qdl c) cd (Qks P fn.results.toList R) ⟨fn.ntmps,h.length,Qgs 0 args,h⟩ gh):VCallsG P g args h gh R:=by
 refine⟨⟨fn,hf,hname,by rw[hb]; rfl⟩,fun O w β vs he hh ha hg=>?_⟩
 refine callsIn_wide.1 (callsIn_of_wp_marks (n:=1) hf hb trivial (wpIn_wide.2 ?_))
 have hsz:vs.size=args.length:=ha.1.symm
 have hs:SimG (Qdl (w,β,h) gh) ⟨O.w,O.β,O.hp,[]⟩ β ⟨fn.ntmps,h.length,Qgs 0 args,h⟩ { tmps:=vs ++ Jp (fn.ntmps - vs.size) undef,defers:=[] } w:=by
  refine⟨rfl,by simp; omega,fun t=>?_,hh,he,hg,EvoC.refl w β h⟩
  rw[Qhg,if_pos (JG _),Uf]
  cases ht:args[t]? with
  | none=>exact .any _
  | some d =>
    have hlt:t<vs.size:=by rw[hsz]; exact(Jc.1 ht).1
    have e:(vs++Jp (fn.ntmps-vs.size) undef).getD t undef=vs.getD t undef:=by
     simp only[Jq]; rw[KC hlt]
    show RelD w β h d ((vs++Jp (fn.ntmps-vs.size) undef).getD t undef)
    rw[e]
    exact ha.2 t d ht
 refine wp_mono (hc (w,β,h) _ β _ w hs) fun e a' w' hq=>?_
 obtain⟨β',S',g',hs',hq⟩:=hq
 have key:(∃ d,QD P S' fn.results.toList=some d/\R d S'.hp g')->LeavesInM Fence.wide 1 P fn a'.tmps (fun e w'=>∃ v r h' β' gh',e=.returned v/\Evo O.w O.β O.hp w' β' h'/\HeapRel w' β' h'/\RelD w' β' h' r v/\MapsD.At (w,β,h) gh' O.w w' β' h'/\R r h' gh') a'.defers .returning w':=by
  rintro⟨d,hr,hend⟩
  obtain⟨v,r1,r2⟩:=Qb2 (P:=P) (fn:=fn) (d:=d) hs'.reb (by
   have e:Qkg P S'.reb=Qkg P S':=by funext r; cases r<;>rfl
   unfold QD at hr |-
   rw[e]; exact hr)
  have hd0:a'.defers=[]:=hs'.defers
  rw[hd0]
  exact⟨v,r1,v,d,S'.hp,β',g',rfl,hs'.evo,hs'.heap,r2,hs'.g,hend⟩
 unfold Qks at hq
 cases e with
 | normal =>
   dsimp only at hq
   split at hq
   ·rename_i d hd; exact key ⟨d,hd,hq⟩
   ·exact hq.elim
 | ret =>
   dsimp only at hq
   split at hq
   ·rename_i d hd; exact key ⟨d,hd,hq⟩
   ·exact hq.elim
 | _=>exact hq.elim
theorem QgF(hf:P.funcs[g]?=some fn)(hb:fn.body=some cd)(hname:(fn.name == "runtime.NumGoroutine")=false)(hn:args.length<=fn.ntmps)(hc:∀ c:QqM,VWpG P (Qdl c) cd (fun e S _=>QcR P fn.results.toList h.length R e S) ⟨fn.ntmps,h.length,Qgs 0 args,h⟩ []):VCalls P g args h R:=
 QgG hf hb hname hn fun O β a w hs hd=>wp_mono (hc (w,β,h) O β a w ⟨hd,hs.size,hs.tm,hs.heap,hs.evo,⟨by simp,by simp⟩,EvoC.refl w β h⟩) fun _ _ _ ⟨β',S',_,h',q⟩=>⟨β',S',⟨h'.size,h'.tm,h'.heap,h'.evo,.inl h'.defers⟩,q⟩
theorem WeakG.slots (hn:S.nt = S'.nt) (hh:S.hp = S'.hp) (ht:∀ p ∈ S'.tm,look S.tm p.1 = p.2\/p.2 = .any):WeakG Γ S g S' g:=fun O β a w hs=>by
 refine⟨β,hs.defers,by rw[<- hn]; exact hs.size,fun t=>?_,by rw[<- hh]; exact hs.heap,by rw[<- hh]; exact hs.evo,by rw[<- hh]; exact hs.g⟩
 have key:∀ (l:List (Nat × DV)),(∀ p ∈ l,look S.tm p.1 = p.2\/p.2 = .any)->RelD w β S.hp (look l t) (a.tmps.getD t undef):=by
  intro l
  induction l with
  | nil=>intro _; exact .any _
  | cons p r ih =>
    intro h
    simp only[look]
    split
    ·rename_i e
     subst e
     rcases h p (by simp) with h | h
     ·rw[<- h]; exact hs.tm _
     ·rw[h]; exact .any _
    ·exact ih fun q hq=>h q (List.mem_cons_of_mem _ hq)
 rw[<- hh]
 exact key _ ht
theorem Qbt(h:k<hp.length):Qg (hp++r) k=Qg hp k:=by unfold Qg; rw[Ji h]
theorem QnE(h:hp.length<=k):Qg (hp++r) k=Qg r (k-hp.length):=by unfold Qg; rw[Jo h]
theorem Qyf:Qg (hp++r) hp.length=Qg r 0:=by rw[QnE (Jl _),Ui]
theorem Qps:(Qq hp k cs).length=hp.length:=by unfold Qq; split<;>simp
theorem Qpt(h:k<hp.length):Qq (hp++r) k cs=Qq hp k cs++r:=by
 unfold Qq
 rw[Ji h]
 cases hp[k]? with
 | some B=>exact List.set_append_left _ _ h
 | none=>rfl
theorem Qxp:(kill hp k).length=hp.length:=QH hp k
theorem Qnr(h:j≠k):(kill hp j)[k]?=hp[k]?:=by
 unfold kill
 split
 ·rw[Kf h]
 ·rfl
theorem Qp0(h:j≠k):(Qq hp j cs)[k]?=hp[k]?:=by
 unfold Qq
 split
 ·rw[Kf h]
 ·rfl
theorem QxB{hp r:Qa}{k:Nat}(h:k<hp.length):(hp++r)[k]?=hp[k]?:=Ji h
theorem QBz{hp r:Qa}{k:Nat}(h:hp.length<=k):(hp++r)[k]?=r[k-hp.length]?:=Jo h
end Go.V
namespace Go.V
variable {P:Program} {γ:Type} {Γ:γ->World->World->Map->Qa->Prop}
@[congr] def QCi(c:Code)(Q:Exit->St->γ->Prop)(g:γ)(h:S=S'):VWpG P Γ c Q S g=VWpG P Γ c Q S' g:=by rw[h]
@[congr] def QBW(o:Oper)(K:St->γ->Prop)(g:γ)(h:S=S'):Qmm P Γ o K S g=Qmm P Γ o K S' g:=by rw[h]
@[congr] def QDx(ops:Array Oper)(o:Oper)(K:St->γ->Prop)(g:γ)(h:S=S'):OpG P Γ ops o K S g=OpG P Γ ops o K S' g:=by rw[h]
@[congr] def QCB(ops:Array Oper)(K:St->Prop)(h:S=S'):QEH P ops K S=QEH P ops K S':=by rw[h]
@[congr] def QCp(ops:Array Oper)(ch:List (List Oper×Option Oper))(K:St->γ->Prop)(g:γ)(h:S=S'):Qzw P Γ ops ch K S g=Qzw P Γ ops ch K S' g:=by rw[h]
@[congr] def Qzf(g:γ)(S':St)(g':γ)(h:S1=S1'):WeakG Γ S1 g S' g'=WeakG Γ S1' g S' g':=by rw[h]
@[congr] def QCs(ops:Array Oper)(k:Nat)(K:St->Prop)(h:S=S'):QEP P ops k K S=QEP P ops k K S':=by rw[h]
theorem QzH(ops:Array Oper)(k:Nat)(K:St->Prop)(nt base:Nat)(tm:List (Nat×DV))(hp:Qa):QEP P ops k K ⟨nt,base,tm,hp⟩=vdr P (Qav ops k).toList (ops.toList.drop (k+1)) (JF (k+1) ([],false)) K ⟨nt,base,tm,hp⟩:=rfl
theorem Qna (after:Array Edge) (f:List Nat × Bool) (m:Nat) (r:List (List Nat × Bool)):∀ n,QP after f n (JF m ([],false) ++ r) = QP after f (n + m) r:=by
 induction m with
 | zero=>intro n; simp
 | succ m ih =>
   intro n
   rw[Kg,Kt,Qlm,ih,show n+1+m=n+(m+1) by omega]
theorem Qlr(after:Array Edge)(f:List Nat×Bool)(m:Nat)(n:Nat):QP after f n (JF m ([],false))=true:=by
 have:=Qna after f m [] n
 rw[KN] at this
 rw[this]; rfl
theorem Qnb (after:Array Edge) (f:List Nat × Bool) (a b:List (List Nat × Bool)):∀ n,QP after f n (a ++ b) = (QP after f n a && QP after f (n + a.length) b):=by
 induction a with
 | nil=>intro n; simp[QP]
 | cons x r ih =>
   intro n
   rw[Kt]
   unfold QP
   rw[ih,Bool.and_assoc,Jd,show n+1+r.length=n+(r.length+1) by omega]
   congr 2
   cases hb:b<;>simp[QP]
theorem Qf3(Q:Exit->St->γ->Prop)(K:St->γ->Prop)(S:St)(g:γ):Qci Q K .normal S g=K S g:=rfl
theorem QjP(Q:Exit->St->γ->Prop)(K:St->γ->Prop)(S:St)(g:γ):Qci Q K .ret S g=Q .ret S g:=rfl
theorem Qh7(Q:Exit->St->γ->Prop)(K:St->γ->Prop)(id:Nat)(S:St)(g:γ):Qci Q K (.exit id) S g=Q (.exit id) S g:=rfl
theorem Qg9(id:Nat)(Q:Exit->St->γ->Prop)(S:St)(g:γ):Qgl id Q .normal S g=Q .normal S g:=rfl
theorem QjQ(id id':Nat)(Q:Exit->St->γ->Prop)(S:St)(g:γ):Qgl id Q (.exit id') S g=if id'=id then Q .normal S g else Q (.exit id') S g:=rfl
theorem QDm(nt base:Nat)(tm:List (Nat×DV))(hp:Qa):St.reb ⟨nt,base,tm,hp⟩=⟨nt,hp.length,tm,hp⟩:=rfl
attribute [go_sem] QzH Qnb Qlr Qf3 QjP Qh7 Qg9 QjQ QDm Qo8 Jg Qbt Qpt QxB QnE QBz Ui
def QqO(P:Program)(T:TypeId):Option Value:=(P.info? T).bind (·.zero)
theorem QgV (h:QqO P T = some z):∀ w,(zeroValue T).run P w = .ok z w:=fun w=>by
 unfold QqO at h
 cases hi:P.info? T with
 | none=>rw[hi] at h; cases h
 | some i =>
   rw[hi] at h
   have h':i.zero=some z:=h
   simp[zeroValue,typeInfo,hi,h']
theorem Qi9(h:v.oneCell'=true):∀ (w:World) (β:Map) (hp:Qa),RelD w β hp (.pv (.lit v)) v:=fun _ _ _=>.pv _ _ (.lit _ h)
abbrev kI:Int->Value:=fun x=>.int .i64 x
theorem Qhl{κ:Type}{enc:κ->Value}{k:κ}{d:DV}(h:d=.pv (.lit (enc k))):∀ (w:World) (β:Map) (hp:Qa) (v:Value),RelD w β hp d v->v=enc k:=fun w β hp v hr=>by
 subst h
 exact Qj hr
end Go.V
namespace Go.V
end Go.V
namespace Go.V
variable {P:Program} {γ:Type} {Γ:γ->World->World->Map->Qa->Prop}
def QBX (l:List Oper):List Nat->List (List Oper × Option Oper)
 | []=>[(l,none)]
 | k :: r=>match l[k]? with
   | some o=>(l.take k,some o)::QBX (l.drop (k+1)) r
   | none=>[(l,none)]
theorem QoI:∀ (ks:List Nat) (l:List Oper),Qbm (QBX l ks) = l
 | [],l=>by simp[QBX,Qbm]
 | k :: r,l=>by
   unfold QBX
   cases h:l[k]? with
   | none=>simp[Qbm]
   | some o =>
     simp only[Qbm,QoI r]
     have hlt:=(Jc.1 h).1
     have e:l[k]=o:=(Jc.1 h).2
     conv=>rhs; rw[<- List.take_append_drop k l]
     congr 1
     rw[List.drop_eq_getElem_cons hlt,e]
def Qkv(P:Program)(Γ:γ->World->World->Map->Qa->Prop)(ops:Array Oper)(l:List Oper)(ks:List Nat)(K:St->γ->Prop)(S:St)(g:γ):Prop:=Qzw P Γ ops (QBX l ks) K S g
def Qrh(P:Program)(Γ:γ->World->World->Map->Qa->Prop)(ops:Array Oper)(x:Option Oper)(A B:List Oper)(ks:List Nat)(K:St->γ->Prop)(S:St)(g:γ):Prop:=match x with
 | some o=>Qah P ops.toList A (fun S1=>OpG P Γ ops o (Qkv P Γ ops B ks K) S1 g) S.reb
 | none=>False
theorem Qrg(ops:Array Oper)(l:List Oper)(K:St->γ->Prop)(S:St)(g:γ):Qkv P Γ ops l [] K S g=Qah P ops.toList l (fun S1=>K S1 g) S.reb:=rfl
theorem Qpb(ops:Array Oper)(o:Oper)(A B:List Oper)(ks:List Nat)(K:St->γ->Prop)(S:St)(g:γ):Qrh P Γ ops (some o) A B ks K S g=Qah P ops.toList A (fun S1=>OpG P Γ ops o (Qkv P Γ ops B ks K) S1 g) S.reb:=rfl
@[congr] def Qzv(ops:Array Oper)(ks:List Nat)(K:St->γ->Prop)(S:St)(g:γ)(h1:x=x')(h2:A=A')(h3:B=B'):Qrh P Γ ops x A B ks K S g=Qrh P Γ ops x' A' B' ks K S g:=by rw[h1,h2,h3]
@[congr] def Qzu(ops:Array Oper)(l:List Oper)(ks:List Nat)(K:St->γ->Prop)(g:γ)(h:S=S'):Qkv P Γ ops l ks K S g=Qkv P Γ ops l ks K S' g:=by rw[h]
theorem VWpG.cut(hΓ:∀ g,Stable (Γ g)){id:Nat}(ks:List Nat)(h:Qkv P Γ ops ops.toList ks (Q .normal) S g):VWpG P Γ (.region id ops false) Q S g:=
 VWpG.region hΓ (QBX ops.toList ks) (QoI ks _).symm h
theorem Qf9(h:Qrh P Γ ops l[k]? (l.take k) (l.drop (k+1)) ks K S g):Qkv P Γ ops l (k::ks) K S g:=by
 unfold Qkv QBX
 cases e:l[k]? with
 | none=>rw[e] at h; exact h.elim
 | some o=>rw[e] at h; exact h
theorem VWpG.cut1(hΓ:∀ g,Stable (Γ g)){id:Nat}(k:Nat)(ks:List Nat)(h:Qrh P Γ ops ops.toList[k]? (ops.toList.take k) (ops.toList.drop (k+1)) ks (Q .normal) S g):VWpG P Γ (.region id ops false) Q S g:=VWpG.cut hΓ (k::ks) (Qf9 h)
attribute [go_sem ↓] Qrg Qpb
theorem VWpG.weakG(h:VWpG P Γ c Q S' g')(hw:WeakG Γ S g S' g'):VWpG P Γ c Q S g:=fun O β a w hs=>by
 obtain⟨β',h'⟩:=hw O β a w hs
 exact h O β' a w h'
theorem VWpG.mono(h:VWpG P Γ c Q S g)(hq:∀ e S g,Q e S g->Q' e S g):VWpG P Γ c Q' S g:=fun O β a w hs=>
 wp_mono (h O β a w hs) fun _ _ _ ⟨β',S',g',k1,k2⟩=>⟨β',S',g',k1,hq _ _ _ k2⟩
structure FrH(hp h':Qa)(A:Nat->Prop):Prop where
 len:hp.length<=h'.length
 same:∀ j,j<hp.length->¬ A j->h'[j]?=hp[j]?
theorem FrH.refl(hp:Qa)(A:Nat->Prop):FrH hp hp A:=⟨Jl _,fun _ _ _=>rfl⟩
theorem FrH.app(h:FrH hp h' A)(r:Qa):FrH hp (h'++r) A:=⟨by rw[Jg]; have:=h.len; omega,fun j hj ha=>by rw[Ji (Jk hj h.len)]; exact h.same j hj ha⟩
theorem FrH.set(h:FrH hp h' A)(hk:A k)(cs:List DV):FrH hp (Qq h' k cs) A:=⟨by rw[Qps]; exact h.len,fun j hj ha=>by rw[Qp0 (fun e=>ha (by rw[<- e]; exact hk))]; exact h.same j hj ha⟩
theorem FrH.kill{hp h':Qa}{A:Nat->Prop}(h:FrH hp h' A){k:Nat}(hk:A k):FrH hp (kill h' k) A:=⟨by rw[Qxp]; exact h.len,fun j hj ha=>by rw[Qnr (fun e=>ha (by rw[<- e]; exact hk))]; exact h.same j hj ha⟩
theorem FrH.trans(h:FrH hp h1 A)(g:FrH h1 h2 B)(hAB:∀ j,j<hp.length->B j->A j):FrH hp h2 A:=⟨Kd h.len g.len,fun j hj ha=>by rw[g.same j (Jk hj h.len) (fun hb=>ha (hAB j hj hb))]; exact h.same j hj ha⟩
theorem Qqu(h:h'[k]?=hp[k]?):Qg h' k=Qg hp k:=by unfold Qg; rw[h]
end Go.V
namespace Go.V
open Go.RowKit (Below)
def VWp0.postK(h:VWp0 P c (QfD P rs n R) S):VWp0 P c (QcR P rs n R) S:=fun O β a w hs hd=>
 wp_mono (h O β a w hs hd) fun _ _ _ ⟨β',_,hs',hq⟩=>⟨β',_,hs'.on (QkY hs'.reb),hq⟩
def QfE(hf:P.funcs[g]?=some fn)(hb:fn.body=some c)(hname:(fn.name == "runtime.NumGoroutine")=false)(hn:args.length<=fn.ntmps)(hc:VWp0 P c (QfD P fn.results.toList h.length R) ⟨fn.ntmps,h.length,Qgs 0 args,h⟩):VCalls P g args h R:=QgG hf hb hname hn hc.postK
def Qil{rd:Option Nat}{n l:Nat}{o:Oper}{c:Call}{f:Operand}{a:Act}{next:Act->World->Prop}{Q:Exit->Act->World->Prop}{R:Ending->World->Prop}(hop:o.op=.call c)(hcal:c.callee=.value f)(hf:a.eval f=.func (.yield l) #[] #[]){args:Array Value}(hargs:c.args.map a.eval=args)(hY:YieldAt (wd rd) (n-1) P l args W R)(hn:∀ e W',R e W'->∃ v,e=.returned v/\next (a.put o.dst v) W'):o.wpIn (wd rd) n P a W next Q:=by
 obtain⟨fn,tmps,assign,body,hy,hR⟩:=hY
 have hrun:(execOp a.eval o).run P W=.ok (.round l fn tmps assign body) W:=by
  subst hargs
  simp[execOp,hop,resolve,hcal,hf,Deferred.ofValue,invoke,hy]
 refine⟨fun _ _=>trivial,?_⟩
 rw[Oper.semAt_plain _ _ _ (by rw[hop]; intro c h; cases h),hrun,Oper.uponIn_round]
 refine⟨fun h=>by simp[Fence.wide] at h,hR.mono ?_⟩
 intro e W' hr
 obtain⟨v,rfl,hv⟩:=hn e W' hr
 exact hv
def PV.fix:PV->Bool
 | .lit v=>v.oneCell'
 | .str _=>true
 | _=>false
def PV.val:PV->Value
 | .lit v=>v
 | .str l=>.string ⟨l.toArray⟩
 | _=>undef
def PV.fix_rel(h:p.fix=true):RelP w im p p.val:=by
 cases p with
 | lit v=>exact .lit v h
 | str l=>exact .str l
 | _=>simp[PV.fix] at h
def PV.fix_eq(h:p.fix=true)(hr:RelP w im p v):v=p.val:=by
 cases hr with
 | lit v _=>rfl
 | str l=>rfl
 | _=>simp[PV.fix] at h
def QiJ:RelD w β hp (.fn (.yield l) [] []) (.func (.yield l) #[] #[]):=.fn _ [] [] #[] #[] rfl rfl (by simp) (by simp)
def QdT:Map:=⟨fun _=>none,fun _=>False⟩
def QtU(w:World):HeapRel w QdT []:=⟨fun k B b h=>by simp at h,fun k B h=>by simp at h,fun j k B B' b h=>by simp at h,fun k B b h=>by simp at h,fun b h=>h.elim⟩
def QFE:¬ img QdT [] b:=by
 rintro(h | ⟨k,B,h,_⟩)
 ·exact h
 ·simp at h
def Evo.quiet(e:Evo w QdT [] w' β []):w.grownBy w' none:=by
 refine⟨e.os,e.tape,e.output,e.size,fun k hk _=>e.same k hk ?_⟩
 rintro⟨j,B,h,_⟩
 simp at h
structure ItA(l:Nat)(vcap:Value)(a:Act):Prop where
 s:a.tmps.size=19
 y:a.tmps.getD 0 undef=.func (.yield l) #[] #[]
 c:a.tmps.getD 1 undef=vcap
def QdG {a:Act} (h:dst ≠ some t) (v:Value):(a.put dst v).tmps.getD t undef = a.tmps.getD t undef:=by
 cases dst with
 | none=>rfl
 | some u =>
   have e:u≠t:=fun e=>h (by rw[e])
   simp[Act.put,Jq,e]
def ItA.put{l:Nat}{vcap:Value}(h:ItA l vcap a){dst:Option Tmp}(h0:dst≠some 0)(h1:dst≠some 1)(v:Value):ItA l vcap (a.put dst v):=
 ⟨by rw[QcB]; exact h.s,by rw[QdG h0]; exact h.y,by rw[QdG h1]; exact h.c⟩
def Qez (h:RelD w β hp (.fn (.yield l) [] []) v):v = .func (.yield l) #[] #[]:=by
 cases h with
 | fn _ _ _ vs us l1 l2 _ _ =>
   rw[J0 l1.symm,J0 l2.symm]
def QeA{rd:Option Nat}{n id:Nat}{ops:Array Oper}{Q:Exit->Act->World->Prop}{K:St->Prop}{T:Act->Prop}(hs:Sim O β S a w)(ht:T a)(h:Qah P ops.toList ops.toList K S)(hT:∀ o∈ops.toList,∀ (a:Act) (v:Value),T a->T (a.put o.dst v))(hK:∀ β S a w,Sim O β S a w->T a->K S->Q .normal a w):(Code.region id ops false).wpIn (wd rd) n P Q a w:=by
 refine wpIn_region ?_
 have:=QaJ (P:=P) (rd:=rd) (n:=n) (O:=O) (ops:=ops) (Q:=Q) (tail:=[]) hT (K:=K) (fun β S a w h1 h2 h3=>hK β S a w h1 h2 h3) ops.toList [] [] (by simp) β S a w hs ht h
 simpa [J7] using this
def QfB(hi:ops[i]?=some o)(hw:Region.wanted o (yielded ops a.tmps)=true)(h:o.wpIn F n P a w (wpOpsIn F n P ops Q rest) Q):wpOpsIn F n P ops Q (i::rest) a w:=by
 simp only[wpOpsIn,hi,hw,if_true]; exact h
structure ItI(w:World)(β:Map)(hp:Qa)(l:Nat)(vcap:Value)(n:Nat)(J:List (Fin n)->World->Prop)(k:Nat)(a:Act)(W:World):Prop where
 hk:k<=n
 d:a.defers=[]
 it:ItA l vcap a
 i:a.tmps.getD 3 undef=.int .i64 ((k:Int)-1)
 L:Lies w β hp W
 j:J ((down n).take (n-k)) W
end Go.V
namespace Go.V
open Go.RowKit (Below)
def Wk(S S':St):Prop:=∀ (O:Org) (β:Map) (a:Act) (w:World),Sim O β S a w->∃ β',Sim O β' S' a w
def Wk.refl(S:St):Wk S S:=fun _ β _ _ h=>⟨β,h⟩
def Wk.weak(h:QoZ S S'):Wk S S':=fun _ _ _ _ hs=>hs.weak h
def Wk.trans(h:Wk S S')(h':Wk S' S''):Wk S S'':=fun O β a w hs=>let ⟨_,h1⟩:=h O β a w hs; h' O _ a w h1
def Wk.wkS(S:St):Wk S ⟨S.nt,S.base,QmI S.tm,QfM S.hp⟩:=fun _ β _ _ h=>⟨β,QkY h⟩
def Wk.nilOwnC (k j:Nat) (T:TypeId) (sz:Nat) (hk:S.hp[k]? = some B) (hd:B.cells[j]? = some (.pv (.slc []))):
 Wk S ⟨S.nt,S.base,S.tm,(S.hp++[(⟨T,true,[]⟩:Blk)]).set k ⟨B.ty,B.live,B.cells.set j (.own S.hp.length sz 0 0)⟩⟩:=fun O β a w hs=>by
 have e:Evo w β S.hp w (ext β S.hp.length none) (S.hp++[(⟨T,true,[]⟩:Blk)]):=by
  refine⟨rfl,rfl,rfl,Jl _,by simp,fun j hj=>Qa0 hj,fun _ _ _=>rfl,fun _ C _ m h=>⟨C,m,h,rfl⟩,fun b _ hb=>?_,rfl⟩
  obtain⟨j,D,g1,g2,g3⟩:=hb
  rcases Kk j S.hp.length with hlt | heq | hgt
  ·rw[Ji hlt] at g1; rw[Qa0 hlt] at g3; exact⟨j,D,g1,g2,g3⟩
  ·subst heq; simp[ext] at g3
  ·rw[Jo (by omega),Jy (by simp; omega)] at g1; simp at g1
 have h2:Sim O (ext β S.hp.length none) ⟨S.nt,S.base,S.tm,S.hp++[⟨T,true,[]⟩]⟩ a w:=
  ⟨hs.defers,hs.size,fun u=>(hs.tm u).mono e,Qc0 hs.heap rfl e (by simp) (fun _=>rfl) (fun _ _=>rfl),hs.evo.trans e,hs.base⟩
 have hlt:k<S.hp.length:=(Jc.1 hk).1
 refine⟨_,QnX h2 (k:=k) (j:=j) (B:=B) (d:=.pv (.slc [])) (d':=.own S.hp.length sz 0 0) (by show(S.hp++_)[k]?=_; rw[Ji hlt]; exact hk) hd rfl ?_⟩
 intro v hv
 cases hv with
 | pv _ _ hp0=>cases hp0 with
   | slc _ ad sz2 val g1 g2 g3 g4 g5=>exact .own0 _ _ ad (by simp) (by simp[ext]) trivial
def Qyt{nt base:Nat}(k j:Nat)(T:TypeId)(sz:Nat)(hk:hp[k]?=some B)(hd:B.cells[j]?=some (.pv (.slc [])))(he:hp'=(hp++[(⟨T,true,[]⟩:Blk)]).set k ⟨B.ty,B.live,B.cells.set j (.own hp.length sz 0 0)⟩):
 Wk ⟨nt,base,[],hp⟩ ⟨nt,base,[],hp'⟩:=by rw[he]; exact Wk.nilOwnC (S:=⟨nt,base,[],hp⟩) k j T sz hk hd
def QEw (P:Program) (gf:Nat) (caps:List DV) (n:Nat) (enc:Nat->Array Value):Prop :=
 ∀ (vs:Array Value) (l:Nat) (J:Nat->World->Prop) (Jx:World->Prop) (W:World),
   (∀ k X Y,J k X->X.grownBy Y none->J k Y)->(∀ X Y,Jx X->X.grownBy Y none->Jx Y)->(∀ k X,J k X->RelL X QdT [] caps vs) ->
   (∀ k,k < n->∀ X Y,J k X->X.grownBy Y none->YieldAt Fence.wide 8 P l (enc k) Y fun e Z=>
    (e=.returned (.bool true)/\J (k+1) Z/\∀ (b:Nat) (o:Obj),X.heap.size<=b->Y.heap[b]?=some o->Z.heap[b]?=some o)\/(e=.returned (.bool false)/\Jx Z)) ->
   J 0 W->CallsIn Fence.wide 9 P gf (#[.func (.yield l) #[] #[]]++vs) W fun e Z=>(∃ v,e=.returned v)/\(J n Z\/Jx Z)
def Qgd(P:Program)(assign:Code)(B:(Exit->St->Prop)->St->Prop)(Kn:St->Prop)(Kr:Qa->Prop)(S0:St):Prop:=
 Qx P assign (fun e S1=>e=.normal/\B (fun e S'=>match e with | .normal=>Kn S' | .ret=>Kr S'.hp | _=>False) { S1 with base:=S1.hp.length }) S0
def QAb (a:Act) (w:World) (β:Map) (hp:Qa) (n:Nat) (I:Nat->Qa) (G:Nat->Prop) (Rr:Nat->Qa->Prop) (e:Exit) (a':Act) (W:World):Prop :=
 ∃ D,w.heap.size<=D/\W.heap[D]? = some (.deferred (some []))/\a' = { a with defers:={ target:=.collected D,args:=#[] } :: a.defers } /\
   ((e = .normal/\G n/\∃ β1,HeapRel W β1 (I n)/\Evo w β hp W β1 (I n)) \/
    (e=.ret/\∃ k β1 hp',k<n/\HeapRel W β1 hp'/\Evo w β hp W β1 hp'/\Rr k hp'))
structure SeqJ(w:World)(β:Map)(hp:Qa)(hk:Qa)(rec:Loop)(W:World):Prop where
 rel:∃ β1,HeapRel W β1 hk/\Evo w β hp W β1 hk
 own:W.heap[w.heap.size+1]?=some (.loop rec)
 dfr:W.heap[w.heap.size]?=some (.deferred (some []))
def SeqJ.grown{hp hk:Qa}{rec:Loop}(h:SeqJ w β hp hk rec X)(hg:X.grownBy Y none):SeqJ w β hp hk rec Y:=by
 obtain⟨⟨β1,h1,h2⟩,h3,h4⟩:=h
 refine⟨⟨β1,h1.up (Up.grown hg fun r e=>by cases e),h2.grown hg fun r e=>by cases e⟩,?_,?_⟩
 ·rw[hg.block _ (Ja.1 h3).1 (by simp)]; exact h3
 ·rw[hg.block _ (Ja.1 h4).1 (by simp)]; exact h4
def SeqJ.turn{hp hk:Qa}{rec:Loop}(h:SeqJ w β hp hk rec X)(rec':Loop):SeqJ w β hp hk rec' (X.putObj (w.heap.size+1) (.loop rec')):=by
 obtain⟨⟨β1,h1,h2⟩,h3,h4⟩:=h
 have hg:=grownBy_putObj' X (w.heap.size+1) (.loop rec')
 have hr:∀ r,some (w.heap.size+1)=some r->w.heap.size<=r/\∃ o:Obj,X.heap[r]?=some o/\o.isCells=false:=fun r e=>by cases e; exact⟨by omega,_,h3,rfl⟩
 exact⟨⟨β1,h1.up (Up.grown hg fun r e=>(hr r e).2),h2.grown hg hr⟩,World.putObj_heap_same (Ja.1 h3).1,(World.putObj_heap_other (by omega)).trans h4⟩
def QGx(hs:Sim O β S a w)(hgS:S.ev g=.fn (.func gf) [] capsD)(hf1:P.funcs[gf]?=some fn)(hf2:(fn.name == "runtime.NumGoroutine")=false)(hf3:fn.body.isNone=false)(hV:QEw P gf caps n enc)(h0:p0<S.nt)(h1:p1<S.nt)(d0 d1:Nat->DV)(v0 v1:Nat->Value)(henc:∀ k,k<n->enc k=#[v0 k,v1 k])(hd0:∀ k W β1 hp1,k<n->RelD W β1 hp1 (d0 k) (v0 k))(hd1:∀ k W β1 hp1,k<n->RelD W β1 hp1 (d1 k) (v1 k))(I:Nat->Qa)(hI0:Wk ⟨S.nt,S.hp.length,[],S.hp⟩ ⟨S.nt,S.hp.length,[],I 0⟩)(G:Nat->Prop)(hG0:G 0)(hcap:∀ k W β1 us,HeapRel W β1 (I k)->RelL W β1 (I k) capsD us->RelL W QdT [] caps us)(Rr:Nat->Qa->Prop)(hpa:QaF assign=true)(hB:BodyOf P body B)(hbody:∀ k,k<n->G k->Qgd P assign B (fun S'=>G (k+1)/\Wk ⟨S.nt,S.hp.length,[],S'.hp⟩ ⟨S.nt,S.hp.length,[],I (k+1)⟩) (Rr k) ⟨S.nt,(I k).length,(p1,d1 k)::(p0,d0 k)::S.tm,I k⟩):
 (Code.rangeFunc g #[p0,p1] assign body).wp P (QAb a w β S.hp n I G Rr) a w:=by
 have hgv:=hs.ev g
 rw[hgS] at hgv
 generalize hv:a.eval g=gv at hgv
 cases hgv with
 | fn _ _ _ vs us l1 l2 r1 r2=>
 have hvs:vs=#[]:=J0 l1.symm
 subst hvs
 have hsz:=hs.size
 have hus:RelL w β S.hp capsD us:=⟨l2,r2⟩
 -- what is laid at the start
 obtain⟨W1,hW1⟩:∃ W1,W1=(w.alloc (.deferred (some []))):=⟨_,rfl⟩
 rw[<- wpIn_wide (n:=10)]
 refine wpIn_rangeFunc ?_
 intro fc hfc
 let rec0:LoopState->Option Code->Loop:=fun st pe=>{ state:=st,pending:=pe,fn:=fc,tmps:=a.tmps,params:=#[p0,p1],assign,body,defers:=w.heap.size }
 let W0:World:=(w.alloc (.deferred (some []))).alloc (.loop (rec0 .ready none))
 have g1:w.grownBy (w.alloc (.deferred (some []))) none:=World.grownBy_alloc w _ none
 have g2:(w.alloc (.deferred (some []))).grownBy W0 none:=World.grownBy_alloc _ _ none
 have hO:Sim ⟨w,β,S.hp,a.defers⟩ β ⟨S.nt,S.hp.length,[],S.hp⟩ a w:=⟨rfl,hs.size,fun _=>.any _,hs.heap,Evo.refl _ _ _,rfl⟩
 obtain⟨β0,hI⟩:=hI0 _ _ _ _ hO
 have nn:∀ (X:World) (r:Nat),none=some r->w.heap.size<=r/\∃ o:Obj,X.heap[r]?=some o/\o.isCells=false:=fun X r e=>by cases e
 have hJ0:SeqJ w β S.hp (I 0) (rec0 .ready none) W0:=by
  refine⟨⟨β0,(hI.heap.up (Up.grown g1 fun r e=>(nn w r e).2)).up (Up.grown g2 fun r e=>(nn (w.alloc (.deferred (some []))) r e).2),(hI.evo.grown g1 (nn w)).grown g2 (nn _)⟩,?_,?_⟩
  ·have:=World.alloc_heap_new (w.alloc (.deferred (some []))) (.loop (rec0 .ready none)); rwa [World.size_alloc] at this
  ·exact(Below.heap_alloc _ _ _ (by simp)).trans (World.alloc_heap_new w _)
 refine⟨w.heap.size+1,[{ target:=.collected w.heap.size,args:=#[] }],W0,{ target:=.fn (.func gf) us,args:=#[.func (.yield (w.heap.size+1)) #[] #[]] },W0,gf,#[.func (.yield (w.heap.size+1)) #[] #[]]++us,W0,run_enterLoop_outer _ _ _ _ _,?_,fun _ _=>trivial,?_,fun _=>by decide,?_⟩
 ·simp only [resolve,hv]
  simp[go_sem]
 ·simp[invoke,go_sem,Qbo hf1 hf2 hf3]
 refine(hV us (w.heap.size+1) (fun k W=>G k/\SeqJ w β S.hp (I k) (rec0 .ready none) W)
  (fun W=>∃ k hp',k<n/\Rr k hp'/\SeqJ w β S.hp hp' (rec0 .done (some .ret)) W) W0 (fun k X Y h hg=>⟨h.1,h.2.grown hg⟩) (fun X Y ⟨k,hp',h1,h2,h3⟩ hg=>⟨k,hp',h1,h2,h3.grown hg⟩) ?cap ?round ⟨hG0,hJ0⟩).mono ?_
 case cap=>
  rintro k X ⟨_,⟨β1,e1,e2⟩,_,_⟩
  exact hcap k X β1 us e1 ⟨hus.1,fun i d hd=>(hus.2 i d hd).mono e2⟩
 case round=>
  rintro k hk X Y hJX hXY
  obtain⟨hGk,⟨βX,hhX,evX⟩,hlX,hdX⟩:=hJX
  have hY:SeqJ w β S.hp (I k) (rec0 .ready none) Y:=SeqJ.grown ⟨⟨βX,hhX,evX⟩,hlX,hdX⟩ hXY
  have uXY:Up X Y:=Up.grown hXY fun r e=>by cases e
  have hhY:HeapRel Y βX (I k):=hhX.up uXY
  have evY:Evo w β S.hp Y βX (I k):=evX.grown hXY fun r e=>by cases e
  -- no block of the caller's is of after X
  have old:∀ b,V.live βX (I k) b->b<X.heap.size:=by
   rintro b ⟨j,D,q1,q2,q3⟩
   obtain⟨C,c1,_⟩:=hhX.blk j D b q1 q2 q3
   exact(Ja.1 c1).1
  have hsX:w.heap.size+1<X.heap.size:=(Ja.1 hlX).1
  have hy:=run_yield (P:=P) (args:=enc k) hY.own (by rw[henc k hk]; rfl)
  refine⟨fc,_,assign,body,hy,roundIn_of_wpIn (n:=8) hfc ?_⟩
  have e1:((rec0 .ready none).params.zip (enc k)).foldl (fun(t:Array Value) (x:Tmp×Value)=>t.setIfInBounds x.1 x.2) (rec0 .ready none).tmps=(a.tmps.setIfInBounds p0 (v0 k)).setIfInBounds p1 (v1 k):=by rw[henc k hk]; simp[rec0]
  rw[e1]
  have hsim:Sim ⟨Y,βX,I k,[]⟩ βX ⟨S.nt,(I k).length,(p1,d1 k)::(p0,d0 k)::S.tm,I k⟩ { tmps:=(a.tmps.setIfInBounds p0 (v0 k)).setIfInBounds p1 (v1 k),defers:=[] } Y:=by
   refine⟨rfl,by simpa using hsz,fun t=>?_,hhY,Evo.refl _ _ _,rfl⟩
   dsimp only
   rw[QcE (by simpa [hsz] using h1),QcE (by simpa [hsz] using h0)]
   simp only[look]
   split
   ·exact hd1 k _ _ _ hk
   split
   ·exact hd0 k _ _ _ hk
   ·exact(hs.tm t).mono evY
  refine wpIn_mono (Q3 (rd:=some (w.heap.size+1)) (n:=8) assign _ _ hpa (hbody k hk hGk) _ _ _ _ hsim) ?_
  rintro e a1 Wa ⟨β2,S1,hs1,rfl,hc⟩
  -- the record is busy
  have keep1:∀ (b:Nat) (o:Obj),Y.heap[b]?=some o->(o.isCells=false\/X.heap.size<=b)->Wa.heap[b]?=some o:=by
   intro b o hb ho
   rw[hs1.evo.same b (Ja.1 hb).1 ?_]
   ·exact hb
   intro hl
   rcases ho with ho | ho
   ·obtain ⟨j,D,q1,q2,q3⟩:=hl
    obtain⟨C,c1,_⟩:=hhY.blk j D b q1 q2 q3
    rw[hb] at c1; cases c1; cases ho
   ·have:=old b hl; omega
  have hla:=keep1 _ _ hY.own (.inl rfl)
  have hda:=keep1 _ _ hY.dfr (.inl rfl)
  refine⟨_,run_beginRound hla rfl,?_⟩
  have hJa:SeqJ w β S.hp S1.hp (rec0 .ready none) Wa:=⟨⟨β2,hs1.heap,evY.trans hs1.evo⟩,hla,hda⟩
  have hga:=grownBy_putObj' Wa (w.heap.size+1) (.loop { rec0 .ready none with state:=.busy })
  have hra:∀ r,some (w.heap.size+1)=some r->w.heap.size<=r/\∃ o:Obj,Wa.heap[r]?=some o/\o.isCells=false:=fun r e=>by cases e; exact⟨by omega,_,hla,rfl⟩
  have hJb:=hJa.turn { rec0 .ready none with state:=.busy }
  generalize hWb:Wa.putObj (w.heap.size+1) (.loop { rec0 .ready none with state:=.busy })=Wb at hga hJb |-
  have uab:Up Wa Wb:=Up.grown hga fun r e=>(hra r e).2
  have hsimb:Sim ⟨Wb,β2,S1.hp,[]⟩ β2 { S1 with base:=S1.hp.length } a1 Wb:=⟨hs1.defers,hs1.size,fun t=>(hs1.tm t).up uab,hs1.heap.up uab,Evo.refl _ _ _,rfl⟩
  refine wpIn_mono (hB (some (w.heap.size+1)) 8 _ _ hc _ _ _ _ hsimb) ?_
  rintro e a2 Wc ⟨β3,S2,hs2,hq⟩
  have evc:Evo w β S.hp Wc β3 S2.hp:=((evY.trans hs1.evo).grown hga hra).trans hs2.evo
  have keep2:∀ (b:Nat) (o:Obj),Wb.heap[b]?=some o->(o.isCells=false\/(X.heap.size<=b/\b<Y.heap.size))->Wc.heap[b]?=some o:=by
   intro b o hb ho
   rw[hs2.evo.same b (Ja.1 hb).1 ?_]
   ·exact hb
   intro hl
   rcases ho with ho | ⟨ho,ho2⟩
   ·obtain ⟨j,D,q1,q2,q3⟩:=hl
    obtain⟨C,c1,_⟩:=hsimb.heap.blk j D b q1 q2 q3
    rw[hb] at c1; cases c1; cases ho
   ·have:=old b (hs1.evo.im b ho2 hl); omega
  have hlc:=keep2 _ _ hJb.own (.inl rfl)
  have hdc:=keep2 _ _ hJb.dfr (.inl rfl)
  -- how it ends
  cases e with
  | normal =>
    have hSc:Sim ⟨w,β,S.hp,[]⟩ β3 ⟨S.nt,S.hp.length,[],S2.hp⟩ { tmps:=a.tmps,defers:=[] } Wc:=⟨rfl,hsz,fun t=>.any _,hs2.heap,evc,rfl⟩
    obtain⟨β4,hS4⟩:=hq.2 _ _ _ _ hSc
    have hJc:SeqJ w β S.hp (I (k+1)) { rec0 .ready none with state:=.busy } Wc:=⟨⟨β4,hS4.heap,hS4.evo⟩,hlc,hdc⟩
    refine⟨_,_,run_endRound none hlc,.inl ⟨rfl,⟨hq.1,hJc.turn _⟩,fun b o hb hYb=>?_⟩⟩
    have hlt:b<Y.heap.size:=(Ja.1 hYb).1
    have q1:=keep1 b o hYb (.inr hb)
    have q2:Wb.heap[b]?=some o:=by rw[<- hWb]; exact(World.putObj_heap_other (by omega)).trans q1
    exact(World.putObj_heap_other (by omega)).trans (keep2 b o q2 (.inr ⟨hb,hlt⟩))
  | ret =>
    have hJc:SeqJ w β S.hp S2.hp { rec0 .ready none with state:=.busy } Wc:=⟨⟨β3,hs2.heap,evc⟩,hlc,hdc⟩
    exact⟨_,_,run_endRound (some .ret) hlc,.inr ⟨rfl,k,S2.hp,hk,hq,hJc.turn _⟩⟩
  | _=>exact hq.elim
 -- QR the iterator
 rintro e W2 ⟨⟨v,rfl⟩,⟨hGn,hJ⟩ | ⟨k,hp',hk,hR,hJ⟩⟩
 ·refine ⟨none,_,run_endLoop hJ.own (by simp [rec0]),w.heap.size,Jl _,?_,rfl,.inl ⟨rfl,hGn,?_⟩⟩
  ·exact(hJ.turn _).dfr
  ·exact(hJ.turn _).rel
 ·refine ⟨some .ret,_,run_endLoop hJ.own (by simp [rec0]),wpIn_ret ⟨w.heap.size,Jl _,?_,rfl,.inr ⟨rfl,?_⟩⟩⟩
  ·exact(hJ.turn _).dfr
  ·obtain ⟨β1,q1,q2⟩:=(hJ.turn { rec0 .done (some .ret) with state:=.exhausted }).rel
   exact⟨k,β1,hp',hk,q1,q2,hR⟩
def VWp0.seqK(hgS:S.ev g=.fn (.func gf) [] capsD)(hf1:P.funcs[gf]?=some fn)(hf2:(fn.name == "runtime.NumGoroutine")=false)(hf3:fn.body.isNone=false)(hV:QEw P gf caps n enc)(h0:p0<S.nt)(h1:p1<S.nt)(d0 d1:Nat->DV)(v0 v1:Nat->Value)(henc:∀ k,k<n->enc k=#[v0 k,v1 k])(hd0:∀ k W β1 hp1,k<n->RelD W β1 hp1 (d0 k) (v0 k))(hd1:∀ k W β1 hp1,k<n->RelD W β1 hp1 (d1 k) (v1 k))(I:Nat->Qa)(hI0:Wk ⟨S.nt,S.hp.length,[],S.hp⟩ ⟨S.nt,S.hp.length,[],I 0⟩)(G:Nat->Prop)(hG0:G 0)(hcap:∀ k W β1 us,HeapRel W β1 (I k)->RelL W β1 (I k) capsD us->RelL W QdT [] caps us)(Rr:Nat->Qa->Prop)(hpa:QaF assign=true)(hB:BodyOf P body B)(hbody:∀ k,k<n->G k->Qgd P assign B (fun S'=>G (k+1)/\Wk ⟨S.nt,S.hp.length,[],S'.hp⟩ ⟨S.nt,S.hp.length,[],I (k+1)⟩) (Rr k) ⟨S.nt,(I k).length,(p1,d1 k)::(p0,d0 k)::S.tm,I k⟩)(hdone:G n->Q .normal { S with hp:=I n })(hret:∀ k hp',k<n->Rr k hp'->Q .ret { S with hp:=hp' }):
 VWp0 P (Code.rangeFunc g #[p0,p1] assign body) Q S:=fun O β a w hs hd=>by
 refine wp_mono (QGx (hs.reb) hgS hf1 hf2 hf3 hV h0 h1 d0 d1 v0 v1 henc hd0 hd1 I hI0 G hG0 hcap Rr hpa hB hbody) ?_
 rintro e a' W ⟨D,hD,hK,rfl,⟨rfl,hGn,β1,hh,ev⟩ | ⟨rfl,k,β1,hp',hk,hh,ev,hR⟩⟩
 ·exact⟨β1,{ S with hp:=I n },⟨hs.size,fun t=>(hs.tm t).mono ev,hh,hs.evo.trans ev,.inr ⟨D,by rw[hd],hK,Kd hs.evo.size hD⟩⟩,hdone hGn⟩
 ·exact⟨β1,{ S with hp:=hp' },⟨hs.size,fun t=>(hs.tm t).mono ev,hh,hs.evo.trans ev,.inr ⟨D,by rw[hd],hK,Kd hs.evo.size hD⟩⟩,hret k hp' hk hR⟩
end Go.V
