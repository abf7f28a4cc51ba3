/-
  Contracts of functions and plain laws. No condition.
-/
import Derived.Test.YtalibkpienbliaaGreatV2
import Derived.Lib.Builder
import Derived.Lib.Overlaps
import Derived.RangeFuncWrites
import Derived.RangeFuncLeaves
import Derived.RangeFuncCalls
import Derived.OwnWalkIn
import Derived.OrdersIn
import Derived.RangeFuncNested
import Derived.MapKept
set_option linter.unusedSimpArgs false
set_option linter.unusedVariables false
set_option linter.defProp false
set_option maxRecDepth 100000
set_option maxHeartbeats 8000000
set_option autoImplicit true
set_option relaxedAutoImplicit true
open Array renaming getElem?_eq_some_iff->Jf,replicate->Jq,getD_eq_getD_getElem?->JC,getElem?_eq_getElem->JE,getElem?_toList->Kp,getElem?_setIfInBounds->Kw,getElem?_append_left->KB,getElem?_modify->KZ
open Bool renaming and_eq_true->Jp,and_eq_false_imp->JX,not_eq_eq_eq_not->JY,or_eq_false_iff->J2,or_eq_true->J3,not_eq_false'->J5,not_eq_true'->J7,not_false->Ka,false_eq_true->Kc,not_true->Kf
open Int renaming reduceToNat->JB,reduceNeg->JL,reduceAdd->JM,reduceSub->JN,reduceMul->JO,reduceBEq->JP,reduceBNe->JQ,reduceLT->JU,reduceLE->JV,reduceEq->JW,not_lt->KE,not_le->KF
open List renaming getElem?_eq_getElem->Ja,getElem?_eq_some_iff->Jb,length_cons->Jc,getElem?_map->Jd,length_map->Je,length_nil->Jg,getElem?_append_left->Jh,length_append->Ji,length_replicate->Jk,getD_eq_getElem?_getD->Jl,getElem?_append_right->Jm,map_cons->Jr,length_drop->Js,getElem?_eq_none->Jt,length_take->Jv,length_set->Jx,range->JA,replicate->JD,getElem?_set->JR,mem_range->JS,all_eq_true->JZ,range'->J0,getElem?_set_ne->J1,mem_map->J4,findIdx?_cons->J6,eq_nil_iff_forall_not_mem->J8,replicate_succ->J9,getElem?_set_self->Kb,idxOf_lt_length_of_mem->Kd,ext_getElem?->Ke,range_eq_range'->Kg,cons_append->Kh,mem_append->Ki,set_eq_take_append_cons_drop->Kk,drop_zero->Km,countP_le_length->Ko,getElem?_toArray->Kq,set_append_left->Ku,range'_append_1->Kv,map_append->Kx,drop_left'->Ky,getElem?_range->Kz,drop_eq_getElem_cons->KC,length->KK,getElem?_cons_succ->KN,mem_cons->KO,getElem?_replicate->KP,take_of_length_le->KQ,map_nil->KR,append_nil->KS,nil_append->KT,take_append_drop->KU,set_append_right->KV,idxOf_cons->KW,getElem?_mapIdx->K1,mem_of_getElem?->K2,mem_cons_of_mem->K3,take_succ_cons->K5,drop_succ_cons->K6,getElem?_drop->K9,flatten_cons->Ua,map_set->Uc,any_eq_true->Ud,mem_toArray->Ue,range'_zero->Uf,range'_succ->Ug,set->Uh,take_left'->Ui,mem_filter->Uj,drop_drop->Uk,map_map->Uo
open Nat renaming lt_of_lt_of_le->Jj,reduceAdd->Jn,le_refl->Jo,zero_add->Ju,reduceLeDiff->Jy,reduceEqDiff->Jz,zero_le->JF,reduceMul->JG,reduceSub->JH,reduceBEq->JI,reduceDiv->JJ,reducePow->JK,reduceLT->JT,not_lt_zero->Kj,add_mul->Kl,le_of_not_lt->Kr,strongRecOn->KA,lt_trichotomy->KD,not_lt->KG,not_le->KH,one_mul->KL,add_sub_cancel_left->KM,lt_trans->KX,le_trans->KY,sub_self->K0,one_pos->K4,add_right_comm->K8,add_comm->Ub,zero_mul->Ul,lt_or_ge->Um,sub_zero->Un,le_of_lt->Uq,mul_one->Ur
open Option renaming map_some->Jw,getD_some->Ks,bind_some->Kt,some->K7
namespace Go.V
structure Enc(α:Type) where
 sz:Nat
 enc:α->List PV
 hsz:0<sz
 hlen:∀a,(enc a).length=sz
def cells{α:Type}(e:Enc α)(l:List α):List DV:=(l.map fun a=>(e.enc a).map DV.pv).flatten
def fz{α:Type}(e:Enc α)(l:List α):List (List PV):=l.map e.enc
def Q7:Enc Int:=⟨1,fun n=>[.lit (.int .i64 n)],K4,fun _=>rfl⟩
def YH:Enc Bool:=⟨1,fun b=>[.lit (.bool b)],K4,fun _=>rfl⟩
def a9:Enc UInt8:=⟨1,fun b=>[.lit (.int .u8 b.toNat)],K4,fun _=>rfl⟩
section
variable {α:Type} (e:Enc α)
theorem tJ(l:List α):(fz e l).length=l.length:=by simp[fz]
theorem lz(l:List α)(i:Nat)(h:i<l.length):(fz e l)[i]?=some (e.enc l[i]):=by
 rw[fz,Jd,Ja h];rfl
theorem yt(l:List α)(n:Nat):(fz e l).take n=fz e (l.take n):=by simp[fz,List.map_take]
theorem YI(l:List α)(n:Nat):(fz e l).drop n=fz e (l.drop n):=by simp[fz,List.map_drop]
theorem pQ(l:List α):((fz e l).flatten).map DV.pv=cells e l:=by
 induction l with
 |nil=>rfl
 |cons a r ih=>simp only[fz,cells,Jr,Ua,Kx] at ih |-;rw[ih]
theorem pP(l:List α)(h:0<l.length):(fz e l)[0]?.map KK=some e.sz:=by
 rw[lz e l 0 h];simp[e.hlen]
theorem QG(a:α)(l:List α):cells e (a::l)=(e.enc a).map DV.pv++cells e l:=rfl
theorem QC(a b:List α):cells e (a++b)=cells e a++cells e b:=by simp[cells]
theorem QK(l:List α):(cells e l).length=l.length*e.sz:=by
 induction l with
 |nil=>simp[cells]
 |cons a r ih=>rw[QG,Ji,ih,Je,e.hlen,Jc,Kl];omega
theorem YJ(ha:DV.nums.go p a=true)(hb:DV.nums.go p b=true):DV.nums.go p (a++b)=true:=by
 induction a with
 |nil=>exact hb
 |cons x r ih=>simp only[Kh,DV.nums.go,Jp] at ha |-;exact⟨ha.1,ih ha.2⟩
theorem sK(p:Nat->Bool):∀(l:List PV),DV.nums.go p (l.map DV.pv)=true
 |[]=>rfl
 |_::r=>sK p r
theorem Es(n:Nat):∀(l:List PV),DV.refs.go n (l.map DV.pv)=true
 |[]=>rfl
 |_::r=>Es n r
theorem sL(l:List α):cells e l=((l.map e.enc).flatten).map DV.pv:=by
 induction l with
 |nil=>rfl
 |cons a r ih=>rw[QG,Jr,Ua,Kx,ih]
theorem Qw(p:Nat->Bool)(l:List α):DV.nums.go p (cells e l)=true:=by rw[sL];exact sK p _
theorem Fh(n:Nat)(l:List α):DV.refs.go n (cells e l)=true:=by rw[sL];exact Es n _
theorem Et (n:Nat) (hp:Qb):∀(l:List PV),Qi ((l.map DV.pv).map (aD n hp)) = some (l.map DV.pv)
 |[]=>rfl
 |a :: r=>by
   have:=Et n hp r;simp only[Jr,Qi,aD] at this |-;rw[this];rfl
theorem Eu (n:Nat) (hp:Qb) (f:Nat):∀(l:List PV),Qi ((l.map DV.pv).map (bH n hp f)) = some l
 |[]=>rfl
 |a :: r=>by
   have:=Eu n hp f r;have h1:bH n hp f (.pv a)=some a:=by cases f<;>rfl
   simp only[Jr,Qi,h1] at this |-;rw[this];rfl
theorem YK(n:Nat)(hp:Qb)(l:List α):Qi ((cells e l).map (aD n hp))=some (cells e l):=by rw[sL];exact Et n hp _
theorem uY (l:List α) (i:Nat) (h:i < l.length):((cells e l).drop (i * e.sz)).take e.sz = (e.enc l[i]).map DV.pv:=by
 induction l generalizing i with
 |nil=>simp at h
 |cons a r ih =>
   have ha:((e.enc a).map DV.pv).length=e.sz:=by rw[Je,e.hlen]
   cases i with
   |zero=>rw[Ul,Km,QG,Ui ha];rfl
   |succ i =>
     have hi:i<r.length:=by simpa using h
     rw[QG,Kl,KL,Ub,<-Uk,Ky ha,ih i hi];rfl
theorem YL (l:List α) (n:Nat):(cells e l).take (n * e.sz) = cells e (l.take n):=by
 induction l generalizing n with
 |nil=>simp[cells]
 |cons a r ih =>
   have ha:((e.enc a).map DV.pv).length=e.sz:=by rw[Je,e.hlen]
   cases n with
   |zero=>simp[cells]
   |succ n=>rw[QG,K5,QG,Kl,KL,Ub,<-ha,List.take_append,KM,ha,ih,KQ vz]
theorem uX (l:List α) (n:Nat):(cells e l).drop (n * e.sz) = cells e (l.drop n):=by
 induction l generalizing n with
 |nil=>simp[cells]
 |cons a r ih =>
   have ha:((e.enc a).map DV.pv).length=e.sz:=by rw[Je,e.hlen]
   cases n with
   |zero=>simp
   |succ n=>rw[QG,K6,Kl,KL,Ub,<-Uk,Ky ha,ih]
theorem rz (n:Nat) (hp:Qb) (f:Nat):∀(l:List α),Qi ((rows e.sz l.length (cells e l)).map fun r=>Qi (r.map (bH n hp f))) = some (fz e l)
 |[]=>rfl
 |a :: l=>by
   have ha:((e.enc a).map DV.pv).length=e.sz:=by rw[Je,e.hlen]
   have hr:rows e.sz (a::l).length (cells e (a::l))=(e.enc a).map DV.pv::rows e.sz l.length (cells e l):=by
    rw[Jc,rows,QG,Ui ha,Ky ha]
   rw[hr,Jr,Eu];show(Qi _).map _=_
   rw[rz n hp f l];rfl
theorem B8 (sz n:Nat) (l m:List DV) (h:n * sz<=l.length):rows sz n (l ++ m) = rows sz n l:=by
 induction n generalizing l with
 |zero=>rfl
 |succ n ih =>
   rw[Kl,KL] at h;rw[rows,rows,List.take_append_of_le_length vz,List.drop_append_of_le_length vz,ih _ (by rw[Js];omega)]
end
def sM(l:List Int):cells Q7 l=l.map (DV.int .i64):=by
 induction l with
 |nil=>rfl
 |cons a r ih=>rw[QG,ih];rfl
def Ew(l:List UInt8):cells a9 l=l.map fun b=>.pv (.lit (.int .u8 b.toNat)):=by
 induction l with
 |nil=>rfl
 |cons a r ih=>rw[QG,ih];rfl
def CV(l:List Int):(cells Q7 l).length=l.length:=by rw[sM,Je]
def rh(l:List UInt8):(cells a9 l).length=l.length:=by rw[Ew,Je]
def tD(l:List Int)(i:Nat)(h:i<l.length):(cells Q7 l)[i]?=some (.int .i64 (l.getD i 0)):=by
 rw[sM,Jd,Jl,Ja h];rfl
def BI(l:List Int)(i:Nat)(n:Int):(cells Q7 l).set i (.pv (.lit (.int .i64 n)))=cells Q7 (l.set i n):=by rw[sM,sM,Uc]
def bL(l:List Int)(i:Nat)(h:i<l.length):(fz Q7 l)[i]?=some [.lit (.int .i64 (l.getD i 0))]:=by
 rw[lz Q7 l i h,Jl,Ja h];rfl
def yp(l:List UInt8)(i:Nat)(h:i<l.length):(fz a9 l)[i]?=some [.lit (.int .u8 (l.getD i 0).toNat)]:=by
 rw[lz a9 l i h,Jl,Ja h];rfl
def mkI(n:Nat):mk [.pv (.lit (.int .i64 0))] n=cells Q7 (JD n 0):=by
 induction n with
 |zero=>rfl
 |succ n ih=>rw[J9,QG,<-ih];rfl
def mkB(n:Nat):mk [.pv (.lit (.bool false))] n=cells YH (JD n false):=by
 induction n with
 |zero=>rfl
 |succ n ih=>rw[J9,QG,<-ih];rfl
def mkU(n:Nat):mk [.pv (.lit (.int .u8 0))] n=cells a9 (JD n 0):=by
 induction n with
 |zero=>rfl
 |succ n ih=>rw[J9,QG,<-ih];rfl
def bw(n:Nat)(hp:Qb)(off sz len:Nat)(x:Option (List DV)):Option PV:=match x with
 |some cs=>if off+len*sz<=cs.length/\0<sz then (Qi ((rows sz len (cs.drop off)).map fun r=>Qi (r.map (bH n hp 3)))).map .sl else none
 |none=>none
theorem Cb:bH n hp 4 (.own k sz off len)=if k<n then none else bw n hp off sz len (Qc hp k):=rfl
def YM:bH n hp f (.pv p)=some p:=by cases f<;>rfl
def Q3(e:Enc α)(h:l.length=len):bw n hp 0 e.sz len (some (cells e l))=some (.sl (fz e l)):=by
 subst h;simp only[bw];rw[if_pos ⟨by rw[QK];omega,e.hsz⟩,Km,rz];rfl
def YN(h:l.length=len):bw n hp 0 1 len (some (cells Q7 l))=some (.sl (fz Q7 l)):=Q3 Q7 h
def YO{α:Type}{n k:Nat}{A B:α}(hk:k<=1000)(hn:n<=1000000000):(if 0<=(n:Int)/\(n:Int)<=n/\(k:Int)*n<=281474976710656/\(n:Int)<=9223372036854775807 then A else B)=A:=by
 refine if_pos ⟨vz,vz,?_,vz⟩;have:(k:Int)*n<=1000*n:=Int.mul_le_mul_of_nonneg_right vz vz;omega
def PV.wk:PV->PV
 |.slc xs=>.sl xs
 |p=>p
def DV.wk:DV->DV
 |.pv p=>.pv p.wk
 |.agg cs=>.agg (go cs)
 |.tup cs=>.tup (go cs)
 |d=>d
where
 go:List DV->List DV
  |[]=>[]
  |d::r=>d.wk::go r
def eH:∀(ds:List DV),DV.wk.go ds=ds.map DV.wk
 |[]=>rfl
 |d::r=>by rw[DV.wk.go,eH r];rfl
def RelP.wk(h:RelP w im p v):RelP w im p.wk v:=by
 cases h with
 |slc xs a sz val h1 h2 h3 h4 h5=>exact .sl xs a xs.length sz val (Jo _) h1 h2 h3 h4 h5
 |lit v h=>exact .lit v h
 |str l=>exact .str l
 |sl xs a cap sz val h1 h2 h3 h4 h5 h6=>exact .sl xs a cap sz val h1 h2 h3 h4 h5 h6
def RelD.wk (h:RelD w β hp d v):RelD w β hp d.wk v:=by
 induction h with
 |pv p v h=>exact .pv _ _ h.wk
 |ptr k off b h hb=>exact .ptr k off b h hb
 |own k sz off len cap b C T m h hb h1 h2 h3 h4=>exact .own k sz off len cap b C T m h hb h1 h2 h3 h4
 |ownc k sz off len cap b o C T m h hb h1 h2 h3 h4 h5=>exact .ownc k sz off len cap b o C T m h hb h1 h2 h3 h4 h5
 |own0 k sz a h hb ha=>exact .own0 k sz a h hb ha
 |ip cs ad val h1 h2 h3=>exact .ip cs ad val h1 h2 h3
 |agg ds vs h _ ih =>
   refine .agg _ vs (by rw[eH,Je];exact h) (fun i d hd=>?_);rw[eH,Jd] at hd;obtain⟨x,h1,h2⟩:=QF hd;subst h2;exact ih i x h1
 |fn f ds es vs us h h' h1 h2 _ _=>exact .fn f ds es vs us h h' h1 h2
 |tup ds vs h _ ih =>
   refine .tup _ vs (by rw[eH,Je];exact h) (fun i d hd=>?_);rw[eH,Jd] at hd;obtain⟨x,h1,h2⟩:=QF hd;subst h2;exact ih i x h1
 |opt c d v h hf _=>exact .opt c d v h hf
 |any v=>exact .any v
mutual
def Ex(p:Nat->Bool):∀(d:DV),d.nums p=true->d.wk.nums p=true
 |.pv _,_=>rfl
 |.ptr _ _,h=>h
 |.own _ _ _ _,h=>h
 |.ownc _ _ _ _ _,h=>h
 |.ip _,_=>rfl
 |.any,_=>rfl
 |.agg cs,h=>by simp only[DV.nums] at h;simp only[DV.wk,DV.nums];exact xh p cs h
 |.tup cs,h=>by simp only[DV.nums] at h;simp only[DV.wk,DV.nums];exact xh p cs h
 |.fn _ _ _,h=>h
 |.opt _ _,h=>h
def xh (p:Nat->Bool):∀(ds:List DV),DV.nums.go p ds = true->DV.nums.go p (DV.wk.go ds) = true
 |[],_=>rfl
 |d :: r,h=>by
   simp only[DV.nums.go,Jp] at h;simp only[DV.wk.go,DV.nums.go,Jp];exact⟨Ex p d h.1,xh p r h.2⟩
end
abbrev Ey(d:DV):DV->Qb->Prop:=fun r h'=>h'=[]/\r.nums (fun _=>false)=true/\r.wk=d
def VCalls.unwk(c:VCalls P g args h (Ey d)):VCalls P g args h (Ret d):=
 ⟨fun w β vs hh ha=>(c.run w β vs hh ha).mono fun _ _ ⟨v,r,h',β',a,b,c,e,k1,k2,k3⟩=>⟨v,d,h',β',a,b,c,k3▸e.wk,k1,k3▸Ex _ r k2,rfl⟩⟩
def Ez:∀(l:List PV),(∀p∈l,p.wk=p)->DV.wk.go (l.map DV.pv)=l.map DV.pv
 |[],_=>rfl
 |a::r,h=>by simp only[Jr,DV.wk.go,DV.wk];rw[h a vv,Ez r fun p hp=>h p (by simp[hp])]
def gE(e:Enc α)(l:List α)(h:∀a,∀p∈e.enc a,p.wk=p):DV.wk.go (cells e l)=cells e l:=by
 rw[sL];refine Ez _ fun p hp=>?_;grind
def YP(l:List Int):DV.wk.go (cells Q7 l)=cells Q7 l:=gE Q7 l fun a p hp=>by simp[Q7] at hp;subst hp;rfl
theorem YQ:k9 (.pv p)=[]:=rfl
def FN (e:Enc α) (l:List α) (h:0 < l.length):mQ (.pv (.sl (fz e l))) = some false:=by
 cases l with
 |nil=>simp at h
 |cons a r =>
   have hl:=e.hlen a;have hs:=e.hsz;simp only[fz,Jr];cases he:e.enc a with
   |nil=>rw[he] at hl;simp at hl;omega
   |cons p c=>rfl
end Go.V
namespace Go.V
open Go.Lib
def bts(P:Program)(S T:TypeId):Bool:=match P.underlying S,P.underlying T with
 |some (.slice e),some .string=>(match P.underlying e with|some (.int .u8)=>true|_=>false)
 |_,_=>false
def kq (hp:Qb) (off len:Nat) (b:Option (List DV)):Option (DV × Qb):=match b with
 |some cs=>if off + len<=cs.length then match gv ((cs.drop off).take len) with
   |some l=>if l.length=len then some (.pv (.str l),hp) else none
   |none=>none
   else none
 |none=>none
def pJ (h:bts P S T = true):ib P hp S T (.own k 1 off len) = kq hp off len (Qc hp k):=by
 unfold bts at h;split at h
 ·rename_i e hs ht;split at h
  ·rename_i he;unfold ib oQ kq;simp only[hs,ht,he,iS,dM];cases Qc hp k with
   |none=>rfl
   |some cs =>
     simp only[Ur,true_and];by_cases hc:off+len<=cs.length
     ·simp only [if_pos hc];cases hb:gv ((cs.drop off).take len) with
      |none=>rfl
      |some l =>
        simp only
        by_cases hl:l.length=len
        ·simp only[if_pos hl];rfl
        ·simp only[if_neg hl];rfl
     ·simp only[if_neg hc];rfl
  ·cases h
 ·cases h
def YR(l:List UInt8):gv (cells a9 l)=some l:=by
 rw[Ew];induction l with
 |nil=>rfl
 |cons b l ih=>simp only[Jr,gv,ih];simp
theorem Fi:kq hp 0 1 (some [.pv (.lit (.int .u8 n))])=some (.pv (.str [UInt8.ofNat n.toNat]),hp):=rfl
end Go.V
namespace Go.V
def aft(o:Oper)(l:List Nat):Oper:={ o with after:=(o.after.toList++l.map fun i=>(⟨i,.data⟩:Edge)).toArray }
def jT(D:List (List Nat)):Nat->List Oper->List Oper
 |_,[]=>[]
 |j,o::r=>aft o (D.getD j [])::jT D (j+1) r
def tcl(ops:Array Oper)(D:List (List Nat)):Array Oper:=(jT D 0 ops.toList).toArray
def dOk(ops:Array Oper)(D:List (List Nat)):Bool:=
 (JA ops.size).all fun j=>(D.getD j []).all fun i=>bnd ops j i||(JA ops.size).any fun m=>bnd ops j m&&(D.getD m []).contains i
def EA (D:List (List Nat)):∀(l:List Oper) (j i:Nat),(jT D j l)[i]? = l[i]?.map fun o=>aft o (D.getD (j + i) [])
 |[],j,i=>by simp[jT]
 |o::r,j,0=>by simp[jT]
 |o :: r,j,i + 1=>by
   simp only[jT,KN];rw[EA D r (j+1) i,K8];rfl
def pB(ops:Array Oper)(D:List (List Nat))(i:Nat):(tcl ops D)[i]?=ops[i]?.map fun o=>aft o (D.getD i []):=by
 have:=EA D ops.toList 0 i;simpa [tcl] using this
def EB(D:List (List Nat)):∀(l:List Oper) (j:Nat),(jT D j l).length=l.length
 |[],_=>rfl
 |o::r,j=>by simp[jT,EB D r]
def YS(ops:Array Oper)(D:List (List Nat)):(tcl ops D).size=ops.size:=by simp[tcl,EB]
section
variable {P:Program} {ops:Array Oper} {D:List (List Nat)} {Q:Exit->Act->World->Prop}
theorem EC(i:Nat):((tcl ops D)[i]?).bind (·.dst)=(ops[i]?).bind (·.dst):=by
 rw[pB];cases ops[i]?<;>rfl
theorem YT(tmps:Array Value):yielded (tcl ops D) tmps=yielded ops tmps:=by
 funext j;unfold yielded;rw[EC]
theorem YU (h:wpOp P (tcl ops D) Q i K a w):wpOp P ops Q i K a w:=by
 unfold wpOp at h |-;rw[pB] at h;cases ho:ops[i]? with
 |none=>simpa [ho] using h
 |some o =>
   simp only[ho,Jw] at h |-;rw[YT] at h;exact h
def Cl(D:List (List Nat))(L:Array Bool):Prop:=∀j,j<L.size->L.getD j false=true->∀i∈D.getD j [],L.getD i false=true
theorem ED(hd:dOk ops D=true)(hs:L.size=ops.size)(hc:Cl D L)(i:Nat)(h:i∈Region.ready .any ops L):i∈Region.ready .any (tcl ops D) L/\∀m∈D.getD i [],L.getD m false=true:=by
 obtain⟨h0,o,ho,hdep⟩:=mem_ready.1 h;have hlt:i<ops.size:=(Jf.1 ho).1
 have key:∀m∈D.getD i [],L.getD m false=true:=by
  intro m hm;have h1:=JZ.1 hd i (JS.2 hlt);have h2:=JZ.1 h1 m hm;rw[J3] at h2
  have dep:∀x,bnd ops i x=true->L.getD x false=true:=by
   intro x hx;unfold bnd at hx;rw[ho] at hx;simp only[Ud,Jp,beq_iff_eq] at hx;obtain⟨e,he,hb,rfl⟩:=hx;exact hdep e (by simpa using he) hb
  rcases h2 with h2|h2
  ·exact dep m h2
  ·obtain ⟨x,hx,h3⟩:=Ud.1 h2;rw[Jp] at h3;exact hc x (by rw[hs];exact JS.1 hx) (dep x h3.1) m (by simpa using h3.2)
 refine⟨mem_ready.2 ⟨h0,aft o (D.getD i []),by rw[pB,ho];rfl,fun e he hb=>?_⟩,key⟩;simp only[aft,Ue,Ki,J4] at he;grind
theorem EE (hs:L.size = ops.size) (hd:dOk ops D = true) (hc:Cl D L):(Region.ready .any ops L = [] ↔ Region.ready .any (tcl ops D) L = []):=by
 constructor
 ·intro h;apply J8.2
  intro j hj;obtain⟨h0,o,ho,hdep⟩:=mem_ready.1 hj;rw[pB] at ho;cases hj':ops[j]? with
  |none=>rw[hj'] at ho;cases ho
  |some o' =>
    rw[hj'] at ho;simp only[Jw,K7.injEq] at ho;subst ho;have:j∈Region.ready .any ops L:=mem_ready.2 ⟨h0,o',hj',fun e he hb=>hdep e (by simp only[aft,Ue,Ki];exact .inl (by simpa using he)) hb⟩;rw[h] at this;cases this
 ·intro h;apply J8.2
  intro j hj;have:=(ED hd hs hc j hj).1;rw[h] at this;cases this
theorem EF (hd:dOk ops D = true):∀(fuel:Nat) (L:Array Bool) (a:Act) (w:World),L.size = ops.size->Cl D L->wpAny P .any (tcl ops D) Q fuel L a w->wpAny P .any ops Q fuel L a w
 |0,L,a,w,hs,hc,h=>⟨(EE hs hd hc).2 h.1,h.2⟩
 |fuel + 1,L,a,w,hs,hc,h=>by
   refine⟨fun hr=>h.1 ((EE hs hd hc).1 hr),fun i hi=>?_⟩;obtain⟨h1,h2⟩:=ED hd hs hc i hi;refine wpOp_mono (fun a w hw=>EF hd fuel _ a w (by simpa using hs) ?_ hw) (YU (h.2 i h1));intro j hj hl m hm;by_cases hji:j=i
   ·subst hji;have:=h2 m hm;by_cases hmj:m=j
    ·subst hmj;exact hl
    ·rw[getD_set_ne false (Ne.symm hmj)];exact this
   ·rw [getD_set_ne false (Ne.symm hji)] at hl;have:=hc j (by simpa using hj) hl m hm;by_cases hmi:m=i
    ·subst hmi
     have hlt:m<L.size:=by
      rcases Um m L.size with h|h
      ·exact h
      ·simp[h] at this
     simp[hlt]
    ·rw[getD_set_ne false (Ne.symm hmi)];exact this
inductive SameL:List Oper->List Oper->Prop
 |nil:SameL [] []
 |cons (o:Oper) (l:List Nat) {r r':List Oper}:SameL r r'->SameL (aft o l::r) (o::r')
theorem ll:∀(l:List Nat),SameL (pick (tcl ops D).toList l) (pick ops.toList l)
 |[]=>.nil
 |i :: r=>by
   have h:(tcl ops D).toList[i]?=(ops[i]?).map fun o=>aft o (D.getD i []):=by
    have:=pB ops D i;simpa using this
   have h':ops.toList[i]?=ops[i]?:=vv;rw[pick,pick,h,h'];cases ops[i]? with
   |none=>exact ll r
   |some o=>exact .cons o _ (ll r)
theorem EG:QJ (tcl ops D).toList S (aft o l)=QJ ops.toList S o:=by
 have key:∀j:Nat,(tcl ops D).toList[j]?.bind (·.dst)=ops.toList[j]?.bind (·.dst):=fun j=>by
  have:=EC (ops:=ops) (D:=D) j;simpa using this
 unfold QJ;have e:(aft o l).guard=o.guard:=rfl;grind
theorem xi:∀{l' l:List Oper},SameL l' l->∀{K K':St->Prop} {S:St},(∀S,K S->K' S)->an P ops.toList l K S->an P (tcl ops D).toList l' K' S:=by
 intro l' l hs;induction hs with
 |nil=>intro K K' S hk h;exact hk S h
 |cons o x _ ih =>
   intro K K' S hk h;unfold an at h |-;rw[EG];refine⟨h.1,?_⟩;have h2:=h.2;have e1:(aft o x).op=o.op:=rfl;have e2:(aft o x).guard=o.guard:=rfl;have e3:(aft o x).dst=o.dst:=rfl;rw[e1,e2,e3];clear h;generalize QJ ops.toList S o=gd at h2 |-;split at h2
   ·exact h2.elim
   ·exact ih hk h2
   ·split at h2
    ·rename_i g args hc;exact h2.mono fun r h' q=>ih hk q
    ·split at h2
     ·rename_i d hp' hv;exact ih hk h2
     ·exact h2.elim
theorem YV:∀{l' l:List Oper},SameL l' l->ik ops.toList S S1 l->ik (tcl ops D).toList S S1 l':=by
 intro l' l hs;induction hs with
 |nil=>intro h;exact h
 |cons o x _ ih =>
   intro h;refine⟨?_,ih h.2⟩;rw[EG];exact h.1
theorem YW:∀{l' l:List Oper},SameL l' l->iY P S l->iY P S l':=by
 intro l' l hs;induction hs with
 |nil=>intro h;exact h
 |cons o x _ ih=>intro h;exact⟨h.1,ih h.2⟩
theorem EH:∀{segs:List Seg} {S:St},vsp P ops.toList segs K S->vsp P (tcl ops D).toList segs K S
 |[],S,h=>h
 |s :: r,S,h=>by
   unfold vsp at h |-;exact⟨YW (ll _) h.1,xi (ll _) (fun S1 ⟨a,b⟩=>⟨YV (ll _) a,xi (ll _) (fun S h=>EH h) b⟩) h.2⟩
end
def eQ{id:Nat}(D:List (List Nat))(H0:List Nat)(segs:List Seg)(hm:P.follows .mixedOrders=true)(hd:dOk ops D=true)(hok:px (tcl ops D) H0 segs=true)(h:an P ops.toList (pick ops.toList H0) (vsp P ops.toList segs (Q .normal)) S):VDraw P id ops Q S:=by
 have h':an P (tcl ops D).toList (pick (tcl ops D).toList H0) (vsp P (tcl ops D).toList segs (Q .normal)) S:=xi (ll _) (fun S h=>EH h) h;intro O β a w hs;have hw:=xe (ops:=tcl ops D) H0 segs hok h' hs;rw[YS] at hw;refine wp_region_any hm (EF hd _ _ _ _ vv (fun j _ hl=>?_) hw);by_cases hj:j<ops.size<;>simp[hj] at hl
end Go.V
namespace Go.V
def aK:Enc (List UInt8):=⟨1,fun s=>[.str s],K4,fun _=>rfl⟩
def uj(l:List (List UInt8)):cells aK l=l.map fun s=>DV.pv (.str s):=by
 induction l with
 |nil=>rfl
 |cons a r ih=>rw[QG,ih];rfl
def Ic(l:List (List UInt8))(i:Nat)(h:i<l.length):(cells aK l)[i]?=some (.pv (.str (l.getD i []))):=by
 rw[uj,Jd,Jl,Ja h];rfl
def vo{α:Type}(l:List α)(i:Nat)(d:α)(h:i<l.length):l.getD i d∈l:=by
 grind
structure C where
 l:List UInt8
 at_:Nat
 ha:at_<=l.length
 hl:l.length<=1000000
def cc(c:C):List DV:=[.pv (.sl (fz a9 c.l)),.int .i64 c.at_]
theorem gG(c:C):DV.nums.go (fun _=>false) (cc c)=true:=rfl
def yq(x n:Nat)(h:1<=n):∃y:Nat,(x:Int).tmod n=y/\y<n:=⟨x % n,by rw[Int.ofNat_tmod],Nat.mod_lt _ h⟩
def uk{hp:Qb}{l:List UInt8}{n:Nat}(h:l.length=n):kq hp 0 n (some (cells a9 l))=some (.pv (.str l),hp):=by
 subst h;have e:((cells a9 l).drop 0).take l.length=cells a9 l:=by rw[Km,KQ];rw[rh];exact Jo _
 simp only[kq];rw[if_pos (by rw[rh];omega),e,YR];simp
end Go.V
namespace Go.V
def tE(hf:P.funcs[g]?=some fn)(hb:fn.body=some c)(hname:(fn.name == "runtime.NumGoroutine")=false)(hn:args.length<=fn.ntmps)(hc:VWp P c (eG P fn.results.toList h.length R) ⟨fn.ntmps,h.length,bj 0 args,h⟩):VCalls P g args h R:=by
 refine wD hf hb hname hn (fun e S hq=>?_) hc;unfold eG at hq;grind
def VWp.weak(h:VWp P c Q S')(hw:gC S S'):VWp P c Q S:=fun O _ a w hs=>
 let ⟨_,h'⟩:=hs.weak hw
 h O _ a w h'
def dP(f:Func):Code:=match f.body with|some c=>c|none=>.skip
end Go.V
namespace Go.V
open Go.Lib
def YX(h:RelL w β hp (d::ds) vs):RelD w β hp d (vs.getD 0 undef):=h.2 0 d rfl
def VCalls.open0 (h:∀ad cap,(∀a,ad = some a->0 < cap->a.spot = none)->VCalls P g (.pv (.lit (.slice ad 0 cap)) :: rest) hp R):VCalls P g (.pv (.sl []) :: rest) hp R:=by
 refine⟨fun w β vs hh ha=>?_⟩;have h1:=YX ha
 have key:∃ad cap,(∀a,ad = some a->0 < cap->a.spot = none)/\RelD w β hp (.pv (.lit (.slice ad 0 cap))) (vs.getD 0 undef):=by
  generalize vs.getD 0 undef=v at h1;cases h1 with
  |pv _ _ hp0=>cases hp0 with
    |sl _ a cap sz val h1 h2 h3 h4 h5 h6=>exact⟨a,cap,h4,.pv _ _ (.lit _ rfl)⟩
 obtain⟨ad,cap,hs,hr⟩:=key;refine(h ad cap hs).run w β vs hh ⟨ha.1,fun i d hd=>?_⟩;cases i with
 |zero=>simp at hd;subst hd;exact hr
 |succ i=>exact ha.2 (i+1) d (by simpa using hd)
mutual
def EI (σ:Nat->Nat):∀(d:DV),(d.ren σ).nums (fun _=>false) = true->d.nums (fun _=>false) = true
 |.pv _,_=>rfl
 |.ptr _ _,h=>h
 |.own _ _ _ _,h=>h
 |.ownc _ _ _ _ _,h=>h
 |.ip _,_=>rfl
 |.any,_=>rfl
 |.agg cs,h=>na σ cs h
 |.tup cs,h=>na σ cs h
 |.fn f a b,h=>by
   simp only[DV.ren,DV.nums,Jp] at h |-;exact⟨na σ a h.1,na σ b h.2⟩
 |.opt c d,h=>EI σ d h
def na (σ:Nat->Nat):∀(ds:List DV),DV.nums.go (fun _=>false) (DV.ren.go σ ds) = true->DV.nums.go (fun _=>false) ds = true
 |[],_=>rfl
 |d :: r,h=>by
   simp only[DV.ren.go,DV.nums.go,Jp] at h |-;exact⟨EI σ d h.1,na σ r h.2⟩
end
def cj(kp:Nat->Bool)(h:Qb):Qb:=h.mapIdx fun i B=>if kp i then B else ⟨B.ty,false,[]⟩
def pC(kp:Nat->Bool)(h:Qb):(cj kp h).length=h.length:=by simp[cj]
def YY(hk:(cj kp h)[k]?=some B)(hl:B.live=true):kp k=true/\h[k]?=some B:=by
 unfold cj at hk;grind
def VCalls.freshK {g:FuncId} {args:List DV} {h:Qb} (kp:Nat->Bool) {R:DV->Qb->Prop} {R':Nat->Nat->TypeId->List DV->Prop} (c:VCalls P g args h R) (hR:∀r h',R r h'->(∀i B,kp i = true->h[i]? = some B->h'[i]? = some B/\DV.nums.go (fun _=>false) B.cells = true)/\∃sz n T cs,((r = .pv (.slc [])/\n = 0/\cs = [])\/∃k,(r = .own k sz 0 n\/∃cap,0 < cap/\r = .ownc k sz 0 n cap)/\(kp k = true->h.length<=k)/\h'[k]? = some ⟨T,true,cs⟩/\DV.nums.go (fun _=>false) cs = true)/\R' sz n T cs):
 VCalls P g args h fun r h'=>∃sz n T cs,R' sz n T cs/\r=.own h.length sz 0 n/\h'=cj kp h++[⟨T,true,cs⟩]:=by
 refine⟨fun w β vs hh ha=>(c.run w β vs hh ha).mono ?_⟩;rintro e w' ⟨v,r,h',β',rfl,ev,hh',hr,hq⟩;obtain⟨hkeep,sz,n,T,cs,hrk,hR'⟩:=hR r h' hq
 obtain ⟨fk,hnum,hlive,hnone,hval⟩:∃fk:Option Nat,DV.nums.go (fun _=>false) cs = true/\(∀b,fk = some b->∃k,h'[k]? = some ⟨T,true,cs⟩/\β'.f k = some b/\(kp k = true->h.length<=k))/\(fk = none->cs = []) /\
  ∀(β2:Map) (h2:Qb) (j:Nat),j<h2.length->β2.f j=fk->RelD w' β2 h2 (.own j sz 0 n) v:=by
  rcases hrk with⟨rfl,rfl,rfl⟩|⟨k,hrk,hkp,hk,hnum⟩
  ·refine ⟨none,rfl,vv,fun _=>rfl,fun β2 h2 j hj hf=>?_⟩;cases hr with
   |pv _ _ hp0=>cases hp0 with
     |slc _ a sz2 val h1 h2 h3 h4 h5=>exact .own0 _ _ a hj hf trivial
  ·refine ⟨β'.f k,hnum,fun b hb=>⟨k,hk,hb,hkp⟩,fun hn=>hh'.none k _ hk rfl hn,fun β2 h2 j hj hf=>?_⟩;rcases hrk with rfl|⟨cap,hcap,rfl⟩
   ·cases hr with
    |own _ _ _ _ cap b C T' m _ hm h1 h2 h3 h4=>exact .own _ _ _ _ cap b C T' m hj (hf.trans hm) h1 h2 h3 h4
    |own0 _ _ a _ hm h1=>exact .own0 _ _ a hj (hf.trans hm) h1
   ·cases hr with
    |ownc _ _ _ _ _ b o C T' m _ hm h1 h2 h3 h4 h5 =>
      rw[h5 hcap];exact .own _ _ _ _ cap b C T' m hj (hf.trans hm) h1 h2 h3 h4
 have at_:∀{j:Nat} {D:Blk},(cj kp h++[(⟨T,true,cs⟩:Blk)])[j]?=some D->D.live=true->(j<h.length/\kp j=true/\h[j]?=some D)\/(j=h.length/\D=⟨T,true,cs⟩):=fun {j D} hj hD=>by
  rw[List.getElem?_append,pC] at hj;split at hj
  ·rename_i hlt;obtain⟨g1,g2⟩:=YY hj hD;exact .inl ⟨hlt,g1,g2⟩
  ·rename_i hge
   have hj0:j-h.length=0:=by
    rcases Nat.eq_zero_or_pos (j-h.length) with h0|h0
    ·exact h0
    ·rw[Jt vg] at hj;cases hj
   rw[hj0] at hj;simp at hj;exact .inr ⟨vz,hj.symm⟩
 have fnew:(ext β h.length fk).f h.length=fk:=by simp[ext]
 have fold:∀{j},j<h.length->(ext β h.length fk).f j=β'.f j:=fun {j} hj=>by rw[cG hj,ev.beta j hj]
 -- each block of the new heap is one of the old
 have src:∀{j:Nat} {D:Blk},(cj kp h++[(⟨T,true,cs⟩:Blk)])[j]?=some D->D.live=true->DV.nums.go (fun _=>false) D.cells=true/\((ext β h.length fk).f j=none->D.cells=[])/\(∀b,(ext β h.length fk).f j=some b->∃k,h'[k]?=some D/\β'.f k=some b/\((j<h.length/\k=j)\/(j=h.length/\(kp k=true->h.length<=k)))):=fun {j D} hj hD=>by
  rcases at_ hj hD with⟨hlt,g1,g2⟩|⟨rfl,rfl⟩
  ·obtain ⟨g3,g4⟩:=hkeep j D g1 g2;rw[fold hlt];exact⟨g4,fun hn=>hh'.none j D g3 hD hn,fun b hb=>⟨j,g3,hb,.inl ⟨hlt,rfl⟩⟩⟩
  ·rw [fnew];exact⟨hnum,hnone,fun b hb=>by obtain⟨k,k1,k2,k3⟩:=hlive b hb;exact⟨k,k1,k2,.inr ⟨rfl,k3⟩⟩⟩
 have lv:∀b,live (ext β h.length fk) (cj kp h++[(⟨T,true,cs⟩:Blk)]) b->live β' h' b:=by
  rintro b ⟨j,D,h1,h2,h3⟩;obtain⟨_,_,hs⟩:=src h1 h2;obtain⟨k,k1,k2,_⟩:=hs b h3;exact⟨k,D,k1,h2,k2⟩
 have im:∀b,img (ext β h.length fk) (cj kp h++[(⟨T,true,cs⟩:Blk)]) b->img β' h' b:=by
  rintro b (hb|hb)
  ·exact .inl (by rw[ev.X];exact hb)
  ·exact .inr (lv b hb)
 have rel:∀{ds:List DV},DV.nums.go (fun _=>false) ds=true->∀(i:Nat) (d:DV),ds[i]?=some d->∀u,RelD w' β' h' d u->RelD w' (ext β h.length fk) (cj kp h++[(⟨T,true,cs⟩:Blk)]) d u:=fun {ds} hnum i d hd u hu=>by
  have hn:d.nums (fun _=>false)=true:=DV.nums_go hnum i d hd;have:=RelD.ren (σ:=fun _=>0) (p:=fun _=>false) (β':=ext β h.length fk) (hp':=cj kp h++[(⟨T,true,cs⟩:Blk)]) (fun _ h=>by cases h) im hu hn;rwa [iJ _ d hn] at this
 have evo:Evo w β h w' (ext β h.length fk) (cj kp h++[(⟨T,true,cs⟩:Blk)]):=
  ⟨ev.os,ev.tape,ev.output,ev.size,by simp[pC],fun j hj=>cG hj,ev.same,ev.shape,fun b hb hl=>ev.im b hb (lv b hl),rfl⟩
 have heap:HeapRel w' (ext β h.length fk) (cj kp h++[(⟨T,true,cs⟩:Blk)]):=by
  refine⟨fun j D b h1 h2 h3=>?_,fun j D h1 h2 h3=>?_,fun i j D D' b h1 h2 h3 h4 f1 f2=>?_,fun j D b h1 h2 h3=>?_,fun b hb=>Jj (hh.bound b hb) ev.size⟩
  ·obtain ⟨s1,_,s2⟩:=src h1 h2;obtain⟨k,hk,hb,_⟩:=s2 b h3;obtain⟨C,c1,c2,c3⟩:=hh'.blk k D b hk h2 hb;exact⟨C,c1,c2,fun i d hd=>⟨(c3 i d hd).1,rel s1 i d hd _ (c3 i d hd).2⟩⟩
  ·obtain ⟨_,s1,_⟩:=src h1 h2;exact s1 h3
  ·obtain ⟨_,_,s1⟩:=src h1 h3;obtain⟨_,_,s2⟩:=src h2 h4;obtain⟨k,k1,k2,k3⟩:=s1 b f1;obtain⟨l,l1,l2,l3⟩:=s2 b f2;have e:=hh'.inj k l D D' b k1 l1 h3 h4 k2 l2;subst e;rcases at_ h1 h3 with⟨p1,p2,_⟩|⟨p1,_⟩<;>rcases at_ h2 h4 with⟨q1,q2,_⟩|⟨q1,_⟩
   ·rcases k3 with⟨_,k3⟩|⟨k3,_⟩<;>rcases l3 with⟨_,l3⟩|⟨l3,_⟩<;>omega
   ·rcases k3 with ⟨_,k3⟩|⟨k3,_⟩
    ·subst k3;rcases l3 with⟨l3,_⟩|⟨_,l3⟩
     ·omega
     ·have:=l3 p2;omega
    ·omega
   ·rcases l3 with ⟨_,l3⟩|⟨l3,_⟩
    ·subst l3;rcases k3 with⟨k3,_⟩|⟨_,k3⟩
     ·omega
     ·have:=k3 q2;omega
    ·omega
   ·omega
  ·obtain ⟨_,_,s2⟩:=src h1 h2;obtain⟨k,hk,hb,_⟩:=s2 b h3;have:=hh'.avoid k D b hk h2 hb;rwa [ev.X] at this
 exact⟨v,.own h.length sz 0 n,_,_,rfl,evo,heap,hval _ _ _ (by simp[pC]) fnew,sz,n,T,cs,hR',rfl,rfl⟩
def YZ(hp:Qb)(k j:Nat):(kill hp k)[j]?=if j=k then (hp[j]?).map (fun B=>⟨B.ty,false,[]⟩) else hp[j]?:=by
 unfold kill;grind
def EJ (hp:Qb) (l:List Nat) (j:Nat):(gx hp l)[j]? = if j ∈ l then (hp[j]?).map (fun B=>⟨B.ty,false,[]⟩) else hp[j]?:=by
 induction l generalizing hp with
 |nil=>simp[gx]
 |cons k r ih =>
   rw[gx,ih,YZ];by_cases e:j=k
   ·subst e;simp only[if_true,KO,true_or];split
    ·cases hp[j]?<;>rfl
    ·rfl
   ·simp only[KO,e,false_or,if_false]
def Y0 {g:FuncId} {args args0:List DV} {hp h0:Qb} {K:DV->Qb->Prop} {R':Nat->Nat->TypeId->List DV->Prop} (sel:List Nat) (kp:Nat->Bool) (hnd:sel.Nodup) (hl:od hp sel = some h0) (hok:l8 hp sel = true) (c:VCalls P g args0 h0 fun r h'=>∃sz n T cs,R' sz n T cs/\r = .own h0.length sz 0 n/\h' = cj kp h0 ++ [⟨T,true,cs⟩]) (ha0:args0 = args.map (DV.ren fun j=>sel.idxOf j)) (ha:DV.nums.go sel.contains args = true) (hkeep:∀i B,kp i = true->h0[i]? = some B->DV.nums.go (fun _=>false) B.cells = true) (hR:∀sz n T cs,R' sz n T cs->DV.nums.go (fun _=>false) cs = true) (h:∀sz n T cs,R' sz n T cs->K (.own hp.length sz 0 n) (gx hp (sel.filter fun k=>!kp (sel.idxOf k)) ++ [⟨T,true,cs⟩])):VCalls P g args hp K:=by
 refine(VCalls.frame sel hnd hl hok c ha0 ha).mono ?_;rintro r h2 ⟨r0,h',⟨sz,n,T,cs,hR1,rfl,rfl⟩,hlen,rfl,rfl⟩;obtain⟨l1,l2⟩:=QE hl;have hlen0:h0.length=sel.length:=by rw[l1,Je]
 have e1:DV.ren (back sel hp.length) (.own h0.length sz 0 n)=.own hp.length sz 0 n:=by
  simp[DV.ren,back,hlen0]
 have hcs:=hR sz n T cs hR1
 have rb:∀{σ:Nat->Nat} {B:Blk},DV.nums.go (fun _=>false) B.cells=true->aG σ B=B:=fun {σ B} hB=>by
  obtain⟨t,lv,c⟩:=B;simp only[aG];rw[<-DV.ren_go,ig _ _ hB]
 have e2 : Q6 hp sel (cj kp h0 ++ [(⟨T,true,cs⟩:Blk)]) = gx hp (sel.filter fun k=>!kp (sel.idxOf k)) ++ [⟨T,true,cs⟩]:=by
  have hd:(cj kp h0++[(⟨T,true,cs⟩:Blk)]).drop sel.length=[⟨T,true,cs⟩]:=by
   rw[Ky (by rw[pC,hlen0])]
  unfold Q6;rw[hd,Jr,KR,rb hcs];congr 1;apply Ke
  intro j;rw[EJ,Jd];by_cases hj:j<hp.length
  ·rw [Kz hj,Jw];have hget:hp[j]?=some hp[j]:=Ja hj;by_cases hm:j∈sel
   ·have hlt:=Kd hm;have hc:sel.contains j=true:=by simpa using hm
    rw[if_pos hc];have hi:sel[sel.idxOf j]?=some j:=by rw[Ja hlt];simp
    have hh0:h0[sel.idxOf j]?=some (aG (fun j=>sel.idxOf j) hp[j]):=by
     have hlt0:sel.idxOf j<h0.length:=by rw[hlen0];exact hlt
     have h3:=l2 (sel.idxOf j) h0[sel.idxOf j] (Ja hlt0);rw[Jd,hi,Jw,hget] at h3;simp at h3;rw[Ja hlt0,<-h3]
    have hdk:(cj kp h0++[(⟨T,true,cs⟩:Blk)]).getD (sel.idxOf j) default=if kp (sel.idxOf j) then aG (fun j=>sel.idxOf j) hp[j] else ⟨hp[j].ty,false,[]⟩:=by
     rw[Jl,Jh (by rw[pC,hlen0];exact hlt),cj,K1,hh0];cases kp (sel.idxOf j)<;>rfl
    rw[hdk];cases hkp:kp (sel.idxOf j) with
    |true =>
      have hnf:¬j∈sel.filter (fun k=>!kp (sel.idxOf k)):=by simp[hkp]
      rw[if_neg hnf,hget];simp only[if_true];have hB:=hkeep _ _ hkp hh0;congr 1;have hB':DV.nums.go (fun _=>false) hp[j].cells=true:=na (fun j=>sel.idxOf j) _ (by rw[DV.ren_go];exact hB);rw[rb hB,rb hB']
    |false =>
      have hnf:j∈sel.filter (fun k=>!kp (sel.idxOf k)):=by simp[hkp,hm]
      rw[if_pos hnf,hget];rfl
   ·have hc:sel.contains j = false:=by simpa using hm
    have hnf:¬j∈sel.filter (fun k=>!kp (sel.idxOf k)):=by simp[hm]
    rw[if_neg (by rw[hc];simp),if_neg hnf,Jl,hget];rfl
  ·rw [Jt (l:=JA hp.length) (by simpa using Kr hj),Jt (l:=hp) (Kr hj)];simp
 grind
abbrev fO(kp:Nat->Bool)(h:Qb)(sz n:Nat)(T:TypeId)(cs:List DV):DV->Qb->Prop:=fun r h'=>r=.own h.length sz 0 n/\h'=cj kp h++[⟨T,true,cs⟩]
def Y1(kp:Nat->Bool)(h:Qb)(sz n:Nat)(T:TypeId)(cs:List DV):DV->Qb->Prop:=fun r h'=>
 (∀i B,kp i=true->h[i]?=some B->h'[i]?=some B/\DV.nums.go (fun _=>false) B.cells=true) /\
 ((r=.pv (.slc [])/\n=0/\cs=[])\/∃k,(r=.own k sz 0 n\/∃cap,0<cap/\r=.ownc k sz 0 n cap)/\(kp k=true->h.length<=k)/\h'[k]?=some ⟨T,true,cs⟩/\DV.nums.go (fun _=>false) cs=true)
def VCalls.newSl(c:VCalls P g args h (Y1 kp h sz n T cs)):VCalls P g args h (fO kp h sz n T cs):=by
 refine(VCalls.freshK kp (R':=fun sz' n' T' cs'=>sz'=sz/\n'=n/\T'=T/\cs'=cs) c fun r h' hr=>⟨hr.1,sz,n,T,cs,hr.2,rfl,rfl,rfl,rfl⟩).mono ?_;grind
def Y2(sel:List Nat)(c:VCalls P g args0 h0 (fO kp h0 sz n T cs))(hnd:sel.Nodup)(hl:od hp sel=some h0)(hok:l8 hp sel=true)(ha0:args0=args.map (DV.ren fun j=>sel.idxOf j))(ha:DV.nums.go sel.contains args=true)(hkeep:∀i B,kp i=true->h0[i]?=some B->DV.nums.go (fun _=>false) B.cells=true)(hc:DV.nums.go (fun _=>false) cs=true)(h:K (.own hp.length sz 0 n) (gx hp (sel.filter fun k=>!kp (sel.idxOf k))++[⟨T,true,cs⟩])):VCalls P g args hp K:=by
 refine Y0 (R':=fun sz' n' T' cs'=>sz'=sz/\n'=n/\T'=T/\cs'=cs) sel kp hnd hl hok (c.mono fun r h' e=>⟨sz,n,T,cs,⟨rfl,rfl,rfl,rfl⟩,e.1,e.2⟩) ha0 ha hkeep ?_ ?_
 ·rintro _ _ _ _ ⟨rfl,rfl,rfl,rfl⟩;exact hc
 ·rintro _ _ _ _ ⟨rfl,rfl,rfl,rfl⟩;exact h
def Of(c:VCalls P g args [] (fO kp [] sz n T cs))(ha:DV.nums.go (fun _=>false) args=true)(hc:DV.nums.go (fun _=>false) cs=true)(h:K (.own hp.length sz 0 n) (hp++[⟨T,true,cs⟩])):VCalls P g args hp K:=by
 refine Y2 [] c List.nodup_nil rfl rfl ?_ ?_ vv hc ?_
 ·rw[<-DV.ren_go,ig _ _ ha]
 ·rw[<-ha];congr 1
 ·exact h
def ko(hp:Qb):List Nat->Prop
 |[]=>True
 |k::r=>(k<hp.length/\DV.nums.go (fun _=>false) (hp.getD k default).cells=true)/\ko hp r
def sN (h:ko hp sel):∀k ∈ sel,k < hp.length/\DV.nums.go (fun _=>false) (hp.getD k default).cells = true:=by
 induction sel with
 |nil=>simp
 |cons a r ih =>
   intro k hk;rcases KO.1 hk with rfl|hk
   ·exact h.1
   ·exact ih h.2 k hk
def jh(hB:DV.nums.go (fun _=>false) B.cells=true):aG σ B=B:=by
 obtain⟨t,lv,c⟩:=B;simp only[aG];rw[<-DV.ren_go,ig _ _ hB]
def Y3 {α β:Type} (l:List α) (f:α->Option β) (g:α->β) (h:∀a ∈ l,f a = some (g a)):Qi (l.map f) = some (l.map g):=by
 induction l with
 |nil=>rfl
 |cons a r ih =>
   rw[Jr,h a vv,Jr];simp only[Qi];rw[ih fun b hb=>h b (by simp[hb])];rfl
def uh(h:ko hp sel):od hp sel=some (sel.map fun k=>hp.getD k default):=by
 refine Y3 sel _ _ fun k hk=>?_;obtain⟨h1,h2⟩:=sN h k hk;rw[Jl,Ja h1] at h2 |-;simp only[Jw,Ks] at h2 |-;rw[jh h2]
def ui(h:ko hp sel):l8 hp sel=true:=by
 unfold l8;rw[JZ];intro k hk;obtain⟨h1,h2⟩:=sN h k hk;rw[Jl,Ja h1] at h2;rw[Ja h1];simp only[Ks] at h2 |-;rw[Q0 _ _ h2];simp
end Go.V
namespace Go.V
def fj (hp:Qb):DV->Option DV
 |.ptr k off=>match Qc hp k with
   |some cs=>(Qi ((cs.drop off).map (bH 0 hp 4))).map .ip
   |none=>none
 |.ip cs=>some (.ip cs)
 |d=>aD 0 hp d
def dp (hp:Qb):DV->Option DV
 |.fn f a b=>match Qi (a.map (fj hp)),Qi (b.map (fj hp)) with
   |some a',some b'=>some (.fn f a' b')
   |_,_=>none
 |.agg cs=>(Qi (cs.map (fj hp))).map .agg
 |d=>fj hp d
def EK (hh:HeapRel w β hp) (hl:Leaves w β hp 0 (img βc [])) (hd:RelD w β hp d v) (h:fj hp d = some d'):RelD w βc [] d' v:=by
 unfold fj at h;split at h
 ·rename_i k off;split at h
  ·rename_i cs hb;obtain⟨ps,h1,h2⟩:=QF h;subst h2;obtain⟨g1,g2⟩:=QE h1;cases hd with
   |ptr _ _ b hk hm =>
     obtain⟨B,C,q1,q2,q3,q4,q5,q6⟩:=gu hh hb hm
     have each:∀(j:Nat) (d:PV),ps[j]?=some d->off+j<C.v.size/\RelP w (img βc []) d (C.v.getD (off+j) undef):=fun j d hj=>by
      have h3:=g2 j d hj;rw[Jd,K9] at h3;obtain⟨x,x1,x2⟩:=QF h3;have hlt:=(Jb.1 x1).1;exact⟨vz,vS hh hl 4 (q6 _ _ x1).2 x2⟩
     refine .ip ps ⟨b,off,none⟩ (fun j=>C.v.getD (off+j) undef) rfl (fun j d hj=>⟨?_,?_,?_⟩) (fun j d hj=>(each j d hj).2)
     ·exact(Jf.1 q4).1
     ·exact hl.off k B b (JF _) q1 q2 hm
     ·exact iQ q4 (each j d hj).1
  ·cases h
 ·rename_i cs;simp at h;subst h;cases hd with
  |ip _ ad val h1 h2 h3 =>
    exact .ip cs ad val h1 (fun j d hd=>⟨(h2 j d hd).1,fun x=>(h2 j d hd).2.1 (hl.sub _ x),(h2 j d hd).2.2⟩) (fun j d hd=>(h3 j d hd).mono (Jo _) (fun _ _ _=>rfl) (fun b _=>hl.sub b))
 ·exact oT (β':=βc) (hp':=[]) hh hl (fun k hk=>absurd hk (Kj _)) (JF _) hd h
def xj{hp:Qb}(hh:HeapRel w β hp)(hl:Leaves w β hp 0 (img βc [])){ds ds':List DV}{n:Nat}{f:Nat->Value}(hn:ds.length=n)(hd:∀i d,ds[i]?=some d->RelD w β hp d (f i))(h:Qi (ds.map (fj hp))=some ds'):ds'.length=n/\∀i d,ds'[i]?=some d->RelD w βc [] d (f i):=by
 obtain⟨h1,h2⟩:=QE h;refine⟨by rw[h1,Je,hn],fun i d hi=>?_⟩;have h3:=h2 i d hi;rw[Jd] at h3;obtain⟨x,x1,x2⟩:=QF h3;exact EK hh hl (hd i x x1) x2
def xl (hh:HeapRel w β hp) (hl:Leaves w β hp 0 (img βc [])) (hd:RelD w β hp d v) (h:dp hp d = some d'):RelD w βc [] d' v:=by
 unfold dp at h;split at h
 ·rename_i f a b;split at h
  ·rename_i a' b' ha hb;simp at h;subst h;cases hd with
   |fn _ _ _ vs us h1 h2 h3 h4 =>
     obtain⟨p1,p2⟩:=xj hh hl h1 h3 ha;obtain⟨q1,q2⟩:=xj hh hl h2 h4 hb;exact .fn f a' b' vs us p1 q1 p2 q2
  ·cases h
 ·rename_i cs;obtain⟨ds,h1,h2⟩:=QF h;subst h2;cases hd with
  |agg _ vs g1 g2 =>
    obtain⟨p1,p2⟩:=xj hh hl g1 g2 h1;exact .agg _ _ p1 p2
 ·exact EK hh hl hd h
def VCalls.lendA{g:FuncId}{args args0:List DV}{hp:Qb}{R:DV->Prop}(ha:Qi (args.map (dp hp))=some args0)(c:VCalls P g args0 [] fun r h'=>h'=[]/\r.flat=true/\R r):
 VCalls P g args hp fun r h'=>h'=hp/\R r:=by
 refine⟨fun w β vs hh hr=>?_⟩;let βc:Map:=⟨fun _=>none,β.X⟩
 have himc:∀b,img βc [] b->β.X b:=fun b hb=>by
  rcases hb with hb|⟨i,D,h1,_⟩
  ·exact hb
  ·simp at h1
 have hlv:Leaves w β hp 0 (img βc []):=⟨fun b hb=>.inl (himc b hb),fun k B b _ h1 h2 h3 hb=>hh.avoid k B b h1 h2 h3 (himc b hb)⟩
 have hhc:HeapRel w βc []:=⟨vv,vv,vv,vv,hh.bound⟩
 obtain⟨a1,a2⟩:=QE ha
 have hargs:RelL w βc [] args0 vs:=by
  refine⟨by rw[a1];simpa using hr.1,fun i d hd=>?_⟩;have h3:=a2 i d hd;rw[Jd] at h3;obtain⟨x,x1,x2⟩:=QF h3;exact xl hh hlv (hr.2 i x x1) x2
 refine(c.run w βc vs hhc hargs).mono ?_;rintro e w' ⟨v,r,h',β',rfl,ev,hh',hrel,rfl,hf,hR⟩;have heap_same:∀b,b<w.heap.size->w'.heap[b]?=w.heap[b]?:=fun b hb=>ev.same b hb (by rintro⟨k,B,h1,_⟩;simp at h1);have e:Evo w β hp w' β hp:=⟨ev.os,ev.tape,ev.output,ev.size,Jo _,fun _ _=>rfl,fun b hb _=>heap_same b hb,fun b C T m h=>⟨C,m,by rw[heap_same b (Jf.1 h).1];exact h,rfl⟩,fun _ _ h=>h,rfl⟩
 refine⟨v,r,hp,β,rfl,e,?_,hrel.flat hf,rfl,hR⟩;refine⟨fun k B b h1 h2 h3=>?_,hh.none,hh.inj,hh.avoid,fun b hb=>Jj (hh.bound b hb) ev.size⟩;obtain⟨C,g1,g2,g3⟩:=hh.blk k B b h1 h2 h3;exact⟨C,by rw[heap_same b (Jf.1 g1).1];exact g1,g2,fun i d hd=>⟨(g3 i d hd).1,(g3 i d hd).2.mono e⟩⟩
def Y4(c:VCalls P g args0 [] (Ret d))(ha:Qi (args.map (dp hp))=some args0)(hf:d.flat=true)(h:K d hp):VCalls P g args hp K:=
 (VCalls.lendA (R:=fun r=>r=d) ha (c.mono fun r h' e=>⟨e.1,e.2.2▸hf,e.2.2⟩)).mono fun r h' e=>by obtain⟨rfl,rfl⟩:=e;exact h
def CM(e:Enc α)(z:α):∀n,mk ((e.enc z).map DV.pv) n=cells e (JD n z)
 |0=>rfl
 |n+1=>by rw[mk,CM e z n,J9,QG]
def Y5(e:Enc α)(l m:List α)(i:Nat):splice (cells e l) (i*e.sz) (cells e m)=cells e (l.take i++m++l.drop (i+m.length)):=by
 unfold splice;rw[YL,QK,<-Kl,uX,QC,QC]
def Oh(e:Enc α)(h:l.length=len):bw n hp 0 e.sz len (some (cells e (l++m)))=some (.sl (fz e l)):=by
 subst h;have h1:=rz e n hp 3 l
 have h2:rows e.sz l.length (cells e (l++m))=rows e.sz l.length (cells e l):=by
  rw[QC];exact B8 _ _ _ _ (by rw[QK];exact Jo _)
 have h3:0+l.length*e.sz<=(cells e (l++m)).length/\0<e.sz:=by
  rw[QK,Ji,Kl];exact⟨vz,e.hsz⟩
 have h0:=Q3 e (n:=n) (hp:=hp) (l:=l) rfl;unfold bw at h0 |-;grind
def qa(f:Fn)(a b:Option (List DV)):Option DV:=match a,b with|some a',some b'=>some (.fn f a' b')|_,_=>none
def EL(x:Option (List DV))(hp:Qb)(off:Nat):Option DV:=match x with|some cs=>(Qi ((cs.drop off).map (bH 0 hp 4))).map .ip|none=>none
theorem Y6:dp hp (.agg cs)=(Qi (cs.map (fj hp))).map .agg:=rfl
theorem Ca:dp hp (.own k sz off len)=aD 0 hp (.own k sz off len):=rfl
theorem Y7:fj hp (.own k sz off len)=aD 0 hp (.own k sz off len):=rfl
theorem Y8:dp hp (.pv p)=some (.pv p):=rfl
theorem Y9:fj hp (.pv p)=some (.pv p):=rfl
theorem Zb:dp hp (.fn f a b)=qa f (Qi (a.map (fj hp))) (Qi (b.map (fj hp))):=rfl
theorem Zd:qa f (some a) (some b)=some (.fn f a b):=rfl
theorem Ze:fj hp (.ptr k off)=EL (Qc hp k) hp off:=rfl
theorem Zf:EL (some cs) hp off=(Qi ((cs.drop off).map (bH 0 hp 4))).map .ip:=rfl
end Go.V
namespace Go.V
def Zg (h:Sim O β S a w) (t:Nat) (T:TypeId) (sz:Nat) (ht:look S.tm t = .pv (.slc [])):
 ∃β',Sim O β' ⟨S.nt,S.base,(t,.own S.hp.length sz 0 0)::S.tm,S.hp++[⟨T,true,[]⟩]⟩ a w:=by
 have e:Evo w β S.hp w (ext β S.hp.length none) (S.hp++[(⟨T,true,[]⟩:Blk)]):=by
  refine⟨rfl,rfl,rfl,Jo _,vv,fun j hj=>cG hj,fun _ _ _=>rfl,fun _ C _ m h=>⟨C,m,h,rfl⟩,fun b _ hb=>?_,rfl⟩;obtain⟨j,D,g1,g2,g3⟩:=hb;rcases KD j S.hp.length with hlt|heq|hgt
  ·rw[Jh hlt] at g1;rw[cG hlt] at g3;exact⟨j,D,g1,g2,g3⟩
  ·subst heq;simp[ext] at g3
  ·rw[Jm vz,Jt vg] at g1;simp at g1
 refine⟨_,h.defers,h.size,fun u=>?_,rU h.heap rfl e vv (fun _=>rfl) (fun _ _=>rfl),h.evo.trans e,h.base⟩;simp only[look];split
 ·rename_i hu;have:=h.tm t;rw[ht] at this;rw[<-hu];generalize a.tmps.getD t undef=v at this;cases this with
  |pv _ _ hp0=>cases hp0 with
    |slc _ ad sz2 val h1 h2 h3 h4 h5=>exact .own0 _ _ ad vv (by simp[ext]) trivial
 ·exact(h.tm u).mono e
def VWp.nilOwn(t:Nat)(T:TypeId)(sz:Nat)(ht:look S.tm t=.pv (.slc []))(h:VWp P c Q ⟨S.nt,S.base,(t,.own S.hp.length sz 0 0)::S.tm,S.hp++[⟨T,true,[]⟩]⟩):VWp P c Q S:=fun O β a w hs=>
 let ⟨_,h'⟩:=Zg hs t T sz ht
 h O _ a w h'
def VLoop.nilOwn(t:Nat)(T:TypeId)(sz:Nat)(ht:look S.tm t=.pv (.slc []))(h:VLoop P c Q ⟨S.nt,S.base,(t,.own S.hp.length sz 0 0)::S.tm,S.hp++[⟨T,true,[]⟩]⟩):VLoop P c Q S:=VWp.nilOwn t T sz ht h
end Go.V
namespace Go.V
open Go
def VCalls.wkA(c:VCalls P g (DV.wk.go args) hp R):VCalls P g args hp R:=
 ⟨fun w β vs hh ha=>c.run w β vs hh ⟨by rw [eH,Je]; exact ha.1,fun i d hd=>by
  rw[eH,Jd] at hd;obtain⟨x,h1,h2⟩:=QF hd;subst h2
  exact(ha.2 i x h1).wk⟩⟩
end Go.V
namespace Go.V
open Go
structure Cut(h h':Qb):Prop where
 len:h'.length=h.length
 at_:∀(k:Nat) (B:Blk),h[k]?=some B->∃B',h'[k]?=some B'/\B'.ty=B.ty/\B'.live=B.live/\∃t,B.cells=B'.cells++t
def Cut.back(c:Cut h h'){k:Nat}(hk:h'[k]?=some B'):∃B,h[k]?=some B/\B'.ty=B.ty/\B'.live=B.live/\∃t,B.cells=B'.cells++t:=by
 have hlt:k<h.length:=by rw[<-c.len];exact(Jb.1 hk).1
 obtain⟨B2,g1,g2⟩:=c.at_ k h[k] (Ja hlt);grind
def Cut.live{h h':Qb}(c:Cut h h'){β:Map}{b:Nat}:live β h' b ↔ live β h b:=by
 constructor
 ·rintro ⟨k,B,h1,h2,h3⟩;obtain⟨B2,g1,_,g3,_⟩:=c.back h1;exact⟨k,B2,g1,g3▸h2,h3⟩
 ·rintro ⟨k,B,h1,h2,h3⟩;obtain⟨B2,g1,_,g3,_⟩:=c.at_ k B h1;exact⟨k,B2,g1,g3.trans h2,h3⟩
def Cut.evo(c:Cut h h')(w:World)(β:Map):Evo w β h w β h':=
 ⟨rfl,rfl,rfl,Jo _,by rw[c.len];exact Jo _,fun _ _=>rfl,fun _ _ _=>rfl,fun _ C _ m e=>⟨C,m,e,rfl⟩,fun _ _ l=>c.live.1 l,rfl⟩
def Cut.heap(c:Cut h h')(hh:HeapRel w β h):HeapRel w β h':=by
 refine⟨fun k B b h1 h2 h3=>?_,fun k B h1 h2 h3=>?_,fun j k B B' b h1 h2 h3 h4 h5 h6=>?_,fun k B b h1 h2 h3=>?_,hh.bound⟩
 ·obtain ⟨B2,g1,g2,g3,t,g4⟩:=c.back h1;obtain⟨C,e1,e2,e3⟩:=hh.blk k B2 b g1 (g3▸h2) h3;refine⟨C,g2▸e1,by rw[g4,Ji] at e2;omega,fun i d hd=>?_⟩;have:B2.cells[i]?=some d:=by rw[g4,Jh (Jb.1 hd).1];exact hd
  exact⟨(e3 i d this).1,(e3 i d this).2.mono (c.evo w β)⟩
 ·obtain ⟨B2,g1,g2,g3,t,g4⟩:=c.back h1;have:=hh.none k B2 g1 (g3▸h2) h3;rw[g4] at this;exact(List.append_eq_nil_iff.1 this).1
 ·obtain ⟨B2,g1,_,g3,_⟩:=c.back h1;obtain⟨B3,i1,_,i3,_⟩:=c.back h2;exact hh.inj j k B2 B3 b g1 i1 (g3▸h3) (i3▸h4) h5 h6
 ·obtain ⟨B2,g1,_,g3,_⟩:=c.back h1;exact hh.avoid k B2 b g1 (g3▸h2) h3
def VCalls.cut(c:VCalls P g args h R)(hr:∀r h',R r h'->∃h'',Cut h' h''/\R' r h''):VCalls P g args h R':=
 ⟨fun w β vs hh ha=>(c.run w β vs hh ha).mono fun _ w' ⟨v,r,h',β',e1,ev,hh',hd,hR⟩=>by
  obtain⟨h'',hc,hR'⟩:=hr r h' hR
  exact⟨v,r,h'',β',e1,ev.trans (hc.evo w' β'),hc.heap hh',hd.mono (hc.evo w' β'),hR'⟩⟩
def Cut.refl(h:Qb):Cut h h:=⟨rfl,fun k B hk=>⟨B,hk,rfl,rfl,[],vv⟩⟩
def Cut.last(h:Qb)(T:TypeId)(b:Bool)(cs t:List DV):Cut (h++[⟨T,b,cs++t⟩]) (h++[⟨T,b,cs⟩]):=by
 refine⟨vv,fun k B hk=>?_⟩;rcases KD k h.length with hlt|heq|hgt
 ·rw [Jh hlt] at hk |-;exact⟨B,hk,rfl,rfl,[],vv⟩
 ·subst heq;simp only[List.getElem?_concat_length,K7.injEq] at hk |-;subst hk;exact⟨_,rfl,rfl,rfl,t,rfl⟩
 ·rw[Jt vg] at hk;cases hk
def VCalls.newSl_cut(c:VCalls P g args h (fO kp h sz n T (cs++t))):VCalls P g args h (fO kp h sz n T cs):=
 c.cut fun r h' e=>by
  obtain⟨rfl,rfl⟩:=e;exact⟨_,Cut.last _ T true cs t,rfl,rfl⟩
end Go.V
namespace Go.V
open Go
structure Gm(keep:List Nat)(S S':St):Prop where
 nt:S'.nt=S.nt
 base:S'.base=S.base
 low:∀k,k<S.base->∃B,S'.hp[k]?=some B/\B.live=false
 nodup:keep.Nodup
 len:S'.hp.length=S.base+keep.length
 hp:∀(i k:Nat),keep[i]?=some k->∃B B',S.hp[k]?=some B/\S'.hp[S.base+i]?=some B'/\B'.ty=B.ty/\B'.live=B.live/\B'.cells=B.cells.map (DV.ren fun k=>S.base+keep.idxOf k)/\(B.live=true->DV.nums.go keep.contains B.cells=true)
 tm:∀t,V.look S'.tm t=.any\/(V.look S'.tm t=(V.look S.tm t).ren (fun k=>S.base+keep.idxOf k)/\(V.look S.tm t).nums keep.contains=true)
def Sim.gm (h:Sim O β S a w) (g:Gm keep S S'):∃β',Sim O β' S' a w:=by
 let β':Map:=⟨fun i=>if i<S.base then β.f i else (keep[i-S.base]?).bind β.f,β.X⟩
 have hO:O.hp.length=S.base:=h.base
 have back:∀{i:Nat} {B':Blk},S'.hp[i]?=some B'->B'.live=true->∃k B,S.base<=i/\keep[i-S.base]?=some k/\S.hp[k]?=some B/\B'.ty=B.ty/\B'.live=B.live/\B'.cells=B.cells.map (DV.ren fun k=>S.base+keep.idxOf k)/\(B.live=true->DV.nums.go keep.contains B.cells=true)/\β'.f i=β.f k:=by
  intro i B' hi hl
  have hge:S.base<=i:=by
   rcases Um i S.base with hlt|hge
   ·obtain ⟨B,h1,h2⟩:=g.low i hlt;rw[hi] at h1;cases h1;rw[hl] at h2;cases h2
   ·exact hge
  have hlt:i-S.base<keep.length:=by have:=(Jb.1 hi).1;rw[g.len] at this;omega
  have hk:keep[i-S.base]?=some keep[i-S.base]:=Ja hlt;obtain⟨B,B'',h1,h2,h3,h4,h5,h6⟩:=g.hp _ _ hk;rw[show S.base+(i-S.base)=i by omega,hi] at h2;cases h2;exact⟨_,B,hge,hk,h1,h3,h4,h5,h6,by simp[β',hk];omega⟩
 have hsub:∀b,live β' S'.hp b->live β S.hp b:=by
  rintro b ⟨i,B',h1,h2,h3⟩;obtain⟨k,B,_,_,k2,_,k4,_,_,k7⟩:=back h1 h2;exact⟨k,B,k2,by rw[<-k4];exact h2,by rw[<-k7];exact h3⟩
 have him:∀b,img β' S'.hp b->img β S.hp b:=fun b hb=>hb.imp id (hsub b)
 have hσ:∀k,keep.contains k=true->k<S.hp.length->S.base+keep.idxOf k<S'.hp.length/\β'.f (S.base+keep.idxOf k)=β.f k:=by
  intro k hk _;have hm:k∈keep:=by simpa using hk
  have hlt:=Kd hm;refine⟨by rw[g.len];omega,?_⟩;have hnl:¬S.base+List.idxOf k keep<S.base:=vz;simp[β',Ja hlt,hnl]
 refine⟨β',h.defers,by rw[g.nt];exact h.size,fun t=>?_,?_,?_,h.base.trans g.base.symm⟩
 ·rcases g.tm t with e|⟨e,hn⟩
  ·rw[e];exact .any _
  ·rw[e];exact RelD.ren hσ him (h.tm t) hn
 ·have hh:=h.heap;refine⟨fun i B' b h1 h2 h3=>?_,fun i B' h1 h2 h3=>?_,fun i j B B' b h1 h2 h3 h4 h5 h6=>?_,fun i B' b h1 h2 h3=>?_,hh.bound⟩
  ·obtain ⟨k,B,_,k1,k2,k3,k4,k5,k6,k7⟩:=back h1 h2;rw[k7] at h3;have hl:B.live=true:=by rw[<-k4];exact h2
   obtain⟨C,c1,c2,c3⟩:=hh.blk k B b k2 hl h3;refine⟨C,by rw[k3];exact c1,by rw[k5,Je];exact c2,fun j d hd=>?_⟩;rw[k5,Jd] at hd;cases hx:B.cells[j]? with
   |none=>simp[hx] at hd
   |some x =>
     simp[hx] at hd;subst hd;obtain⟨o1,o2⟩:=c3 j x hx;refine⟨?_,RelD.ren hσ him o2 (DV.nums_go (k6 hl) j x hx)⟩;cases x<;>first|rfl|exact o1
  ·obtain ⟨k,B,_,k1,k2,k3,k4,k5,k6,k7⟩:=back h1 h2;rw[k7] at h3;rw[k5,hh.none k B k2 (by rw[<-k4];exact h2) h3];rfl
  ·obtain ⟨k,D,g1,k1,k2,k3,k4,k5,k6,k7⟩:=back h1 h3;obtain⟨k',D',g2,l1,l2,l3,l4,l5,l6,l7⟩:=back h2 h4;rw[k7] at h5;rw[l7] at h6;have:=hh.inj k k' D D' b k2 l2 (by rw[<-k4];exact h3) (by rw[<-l4];exact h4) h5 h6;subst this;obtain⟨hi,e1⟩:=Jb.1 k1;obtain⟨hj,e2⟩:=Jb.1 l1;have:=(List.getElem_inj g.nodup).1 (e1.trans e2.symm);omega
  ·obtain ⟨k,B,_,k1,k2,k3,k4,k5,k6,k7⟩:=back h1 h2;rw[k7] at h3;exact hh.avoid k B b k2 (by rw[<-k4];exact h2) h3
 ·have ev:=h.evo;have hlow:∀k,k<O.hp.length->β'.f k=β.f k:=fun k hk=>by simp[β',show k<S.base by omega]
  exact⟨ev.os,ev.tape,ev.output,ev.size,by rw[g.len];omega,fun k hk=>(hlow k hk).trans (ev.beta k hk),ev.same,ev.shape,fun b hb hl=>ev.im b hb (hsub b hl),ev.X⟩
def sO(n:Nat)(keep:List Nat)(tm:List (Nat×DV)):List (Nat×DV)->Prop
 |[]=>True
 |(t,d)::r=>(d=(V.look tm t).ren (fun k=>n+keep.idxOf k)/\(V.look tm t).nums keep.contains=true)/\sO n keep tm r
def EM:∀{tm':List (Nat × DV)},sO n keep tm tm'->∀t,V.look tm' t = .any\/(V.look tm' t = (V.look tm t).ren (fun k=>n + keep.idxOf k)/\(V.look tm t).nums keep.contains = true)
 |[],_,t=>.inl rfl
 |(a,d) :: r,h,t=>by
   simp only[V.look];split
   ·rename_i e;subst e;exact .inr h.1
   ·exact EM h.2 t
def Zh(n:Nat)(keep:List Nat)(cs cs':List DV):Prop:=(DV.nums.go (fun _=>false) cs=true/\cs'=cs)\/(cs'=cs.map (DV.ren fun k=>n+keep.idxOf k)/\DV.nums.go keep.contains cs=true)
def sP(n:Nat)(keep:List Nat)(hp:Qb):List Nat->Qb->Prop
 |[],[]=>True
 |k::r,B'::r'=>(∃B,hp[k]?=some B/\B'.ty=B.ty/\B'.live=B.live/\Zh n keep B.cells B'.cells)/\sP n keep hp r r'
 |_,_=>False
def EN:∀{l:List Nat} {hp':Qb},sP n keep hp l hp'->hp'.length = l.length/\∀(i k:Nat),l[i]? = some k->∃B B',hp[k]? = some B/\hp'[i]? = some B'/\B'.ty = B.ty/\B'.live = B.live/\B'.cells = B.cells.map (DV.ren fun k=>n + keep.idxOf k)/\(B.live = true->DV.nums.go keep.contains B.cells = true)
 |[],[],_=>⟨rfl,fun i k h=>by simp at h⟩
 |[],_::_,h=>h.elim
 |_::_,[],h=>h.elim
 |k0 :: r,B' :: r',h=>by
   obtain⟨⟨B,h1,h2,h3,h4⟩,h5⟩:=h;obtain⟨g1,g2⟩:=EN h5;refine⟨by simp[g1],fun i k hk=>?_⟩;cases i with
   |zero =>
     simp at hk;subst hk;refine⟨B,B',h1,rfl,h2,h3,?_⟩;rcases h4 with⟨n,e⟩|⟨e,n⟩
     ·exact⟨by rw[e,<-DV.ren_go,ig _ _ n],fun _=>Q0 _ _ n⟩
     ·exact⟨e,fun _=>n⟩
   |succ i=>exact g2 i k (by simpa using hk)
def gD:List TypeId->Qb:=List.map fun T=>⟨T,false,[]⟩
def VWp.move(keep:List Nat)(Ts:List TypeId)(tm':List (Nat×DV))(hp':Qb)(hb:Ts.length=S.base)(hn:keep.Nodup)(hh:sP S.base keep S.hp keep hp')(ht:sO S.base keep S.tm tm')(h:VWp P c Q ⟨S.nt,S.base,tm',gD Ts++hp'⟩):VWp P c Q S:=fun O β a w hs=>by
 obtain⟨g1,g2⟩:=EN hh;have hl:(gD Ts).length=S.base:=by simp[gD,hb]
 obtain⟨β',h'⟩:=hs.gm (keep:=keep) (S':=⟨S.nt,S.base,tm',gD Ts++hp'⟩) ⟨rfl,rfl,fun k hk=>by
  have hlt:k<(gD Ts).length:=vz;refine⟨(gD Ts)[k],by show(gD Ts++hp')[k]?=_;rw[Jh hlt,Ja hlt],by simp[gD]⟩,hn,by show(gD Ts++hp').length=_;rw[Ji,hl,g1],fun i k hk=>by
  obtain⟨B,B',e1,e2,e3⟩:=g2 i k hk
  exact⟨B,B',e1,by show(gD Ts++hp')[S.base+i]?=_; rw[Jm vz,hl,show S.base+i-S.base=i by omega]; exact e2,e3⟩,EM ht⟩
 exact h O β' a w h'
def VLoop.move(keep:List Nat)(Ts:List TypeId)(tm':List (Nat×DV))(hp':Qb)(hb:Ts.length=S.base)(hn:keep.Nodup)(hh:sP S.base keep S.hp keep hp')(ht:sO S.base keep S.tm tm')(h:VLoop P c Q ⟨S.nt,S.base,tm',gD Ts++hp'⟩):VLoop P c Q S:=VWp.move keep Ts tm' hp' hb hn hh ht h
end Go.V
namespace Go.V
open Go
def sQ(n:Nat)(hp:Qb)(tm:List (Nat×DV)):List (Nat×DV)->Prop
 |[]=>True
 |(t,d)::r=>frz n hp (V.look tm t)=some d/\sQ n hp tm r
def xm:∀{tm':List (Nat × DV)},sQ n hp tm tm'->∀t,V.look tm' t = .any\/frz n hp (V.look tm t) = some (V.look tm' t)
 |[],_,t=>.inl rfl
 |(a,d) :: r,h,t=>by
   simp only[V.look];split
   ·rename_i e;subst e;exact .inr h.1
   ·exact xm h.2 t
structure Fz(S S':St):Prop where
 nt:S'.nt=S.nt
 base:S'.base=S.base
 hp:fw S.base S.hp=some S'.hp
 tm:sQ S.base S.hp S.tm S'.tm
def Sim.fz(h:Sim O β S a w)(g:Fz S S'):Sim O β S' a w:=by
 have hn:S.base<=S.hp.length:=by rw[<-h.base];exact h.evo.len
 have one:∀{d:DV} {v:Value} {d':DV},RelD w β S.hp d v->frz S.base S.hp d=some d'->RelD w β S'.hp d' v/\HeapRel w β S'.hp/\S'.hp.length=S.base/\∀b,live β S'.hp b->live β S.hp b:=by
  intro d v d' hd hf;obtain⟨e,hp',⟨r1,r2⟩,k2,k3,k4,k5⟩:=se h.heap hn hd (R:=fun e hp'=>e=d'/\hp'=S'.hp) (by unfold gA;rw[hf,g.hp];exact⟨rfl,rfl⟩);subst r1 r2;exact⟨k2,k3,k4,k5⟩
 obtain⟨_,k3,k4,k5⟩:=one (d:=.any) (v:=undef) (d':=.any) (.any _) rfl;refine⟨h.defers,by rw[g.nt];exact h.size,fun t=>?_,k3,?_,h.base.trans g.base.symm⟩
 ·rcases xm g.tm t with e|e
  ·rw[e];exact .any _
  ·exact(one (h.tm t) e).1
 ·have ev:=h.evo;exact⟨ev.os,ev.tape,ev.output,ev.size,by rw[k4,<-h.base];exact Jo _,ev.beta,ev.same,ev.shape,fun b hb hl=>ev.im b hb (k5 b hl),ev.X⟩
def VWp.fz(S':St)(g:Fz S S')(h:VWp P c Q S'):VWp P c Q S:=fun O β a w hs=>h O β a w (hs.fz g)
def VLoop.fz(S':St)(g:Fz S S')(h:VLoop P c Q S'):VLoop P c Q S:=VWp.fz S' g h
end Go.V
namespace Go.V
open Go
def VCalls.giveA{g:FuncId}{args args0:List DV}{hp:Qb}{R:DV->Prop}(ha:Qi (args.map (dp hp))=some args0)(c:VCalls P g args0 [] fun r h'=>h'=[]/\r.nums (fun _=>false)=true/\R r):
 VCalls P g args hp fun r h'=>h'=hp.map (fun B=>⟨B.ty,false,[]⟩)/\R r:=by
 refine⟨fun w β vs hh hr=>?_⟩;let βc:Map:=⟨fun _=>none,β.X⟩
 have himc:∀b,img βc [] b->β.X b:=fun b hb=>by
  rcases hb with hb|⟨i,D,h1,_⟩
  ·exact hb
  ·simp at h1
 have hlv:Leaves w β hp 0 (img βc []):=⟨fun b hb=>.inl (himc b hb),fun k B b _ h1 h2 h3 hb=>hh.avoid k B b h1 h2 h3 (himc b hb)⟩
 have hhc:HeapRel w βc []:=⟨vv,vv,vv,vv,hh.bound⟩
 obtain⟨a1,a2⟩:=QE ha
 have hargs:RelL w βc [] args0 vs:=by
  refine⟨by rw[a1];simpa using hr.1,fun i d hd=>?_⟩;have h3:=a2 i d hd;rw[Jd] at h3;obtain⟨x,x1,x2⟩:=QF h3;exact xl hh hlv (hr.2 i x x1) x2
 refine(c.run w βc vs hhc hargs).mono ?_;rintro e w' ⟨v,r,h',β',rfl,ev,hh',hrel,rfl,hf,hR⟩;have heap_same:∀b,b<w.heap.size->w'.heap[b]?=w.heap[b]?:=fun b hb=>ev.same b hb (by rintro⟨k,B,h1,_⟩;simp at h1)
 have dead:∀(k:Nat) (B:Blk),(hp.map (fun B=>(⟨B.ty,false,[]⟩:Blk)))[k]?=some B->B.live=false:=fun k B hk=>by
  rw[Jd] at hk;obtain⟨x,_,x2⟩:=QF hk;subst x2;rfl
 have nolive:∀b,¬live β (hp.map (fun B=>(⟨B.ty,false,[]⟩:Blk))) b:=by
  rintro b ⟨k,B,h1,h2,_⟩;rw[dead k B h1] at h2;cases h2
 have e:Evo w β hp w' β (hp.map (fun B=>⟨B.ty,false,[]⟩)):=⟨ev.os,ev.tape,ev.output,ev.size,vv,fun _ _=>rfl,fun b hb _=>heap_same b hb,fun b C T m h=>⟨C,m,by rw[heap_same b (Jf.1 h).1];exact h,rfl⟩,fun b _ h=>absurd h (nolive b),rfl⟩
 refine⟨v,r,_,β,rfl,e,?_,hrel.closed hf ?_,rfl,hR⟩
 ·refine ⟨fun k B b h1 h2 h3=>?_,fun k B h1 h2 h3=>?_,fun i j B B' b h1 h2 h3=>?_,fun k B b h1 h2 h3=>?_,fun b hb=>Jj (hh.bound b hb) ev.size⟩
  ·rw[dead k B h1] at h2;cases h2
  ·rw[dead k B h1] at h2;cases h2
  ·rw[dead i B h1] at h3;cases h3
  ·rw[dead k B h1] at h2;cases h2
 ·rintro b (hb|hb)
  ·exact .inl (by rw[ev.X];exact hb)
  ·exact absurd hb (nolive b)
def EO(hlt:∀k∈sel,k<hp.length):Q6 hp sel ((sel.map fun k=>hp.getD k default).map (fun B=>⟨B.ty,false,[]⟩))=gx hp sel:=by
 unfold Q6;rw[List.drop_of_length_le vv,KR,KS];apply Ke
 intro k;rw[EJ,Jd];by_cases hk:k<hp.length
 ·rw [Kz hk,Jw];have hget:hp[k]?=some hp[k]:=Ja hk;by_cases hm:k∈sel
  ·have hc:sel.contains k = true:=by simpa using hm
   have hi:=Kd hm;rw[if_pos hc,if_pos hm,hget,Jw];congr 1;rw[Jl,Jd,Jd,Ja hi];simp[aG,hget]
  ·have hc:sel.contains k = false:=by simpa using hm
   rw[if_neg (by rw[hc];simp),if_neg hm,Jl,hget];rfl
 ·rw [Jt (l:=JA hp.length) (by simpa using hk),Jt (l:=hp) vz];simp
def pU(sel:List Nat)(args1:List DV)(h0:Qb)(c:VCalls P g args0 [] (Ret d))(hh0:h0=sel.map fun k=>hp.getD k default)(hpl:ko hp sel)(hnd:sel.Nodup)(ha1:args1=args.map (DV.ren fun j=>sel.idxOf j))(ha:DV.nums.go sel.contains args=true)(hf:Qi (args1.map (dp h0))=some args0)(h:K d (gx hp sel)):VCalls P g args hp K:=by
 subst hh0;have c1:=VCalls.giveA (R:=fun r=>r.nums (fun _=>false)=true/\r=d) hf (c.mono fun r h' e=>⟨e.1,e.2.1,e.2⟩);refine(VCalls.frame sel hnd (uh hpl) (ui hpl) c1 ha1 ha).mono ?_;rintro r h2 ⟨r0,h',⟨rfl,hn,rfl⟩,_,rfl,rfl⟩;rw[EO fun k hk=>(sN hpl k hk).1,iJ _ _ hn];exact h
end Go.V
namespace Go.V
open Go
def Zi(h:Sim O β S a w)(hk:S.hp[k]?=some B)(hd:B.cells[j]?=some d)(h1:d'.one=true)(hr:∀v,RelD w β S.hp d v->RelD w β S.hp d' v):
 Sim O β ⟨S.nt,S.base,S.tm,S.hp.set k ⟨B.ty,B.live,B.cells.set j d'⟩⟩ a w:=by
 have hlt:k<S.hp.length:=(Jb.1 hk).1
 have at_:∀{i:Nat} {D:Blk},(S.hp.set k ⟨B.ty,B.live,B.cells.set j d'⟩)[i]?=some D->∃D0,S.hp[i]?=some D0/\D.ty=D0.ty/\D.live=D0.live/\D.cells.length=D0.cells.length/\(D=D0\/(i=k/\D0=B/\D.cells=B.cells.set j d')):=by
  intro i D hi;rw[JR] at hi;split at hi
  ·rename_i e;subst e;simp[hlt] at hi;subst hi;exact⟨B,hk,rfl,rfl,vv,.inr ⟨rfl,rfl,rfl⟩⟩
  ·exact⟨D,hi,rfl,rfl,rfl,.inl rfl⟩
 have lv:∀b,live β (S.hp.set k ⟨B.ty,B.live,B.cells.set j d'⟩) b->live β S.hp b:=by
  rintro b ⟨i,D,g1,g2,g3⟩;obtain⟨D0,e1,_,e3,_⟩:=at_ g1;exact⟨i,D0,e1,e3▸g2,g3⟩
 have e:Evo w β S.hp w β (S.hp.set k ⟨B.ty,B.live,B.cells.set j d'⟩):=
  ⟨rfl,rfl,rfl,Jo _,vv,fun _ _=>rfl,fun _ _ _=>rfl,fun _ C _ m h=>⟨C,m,h,rfl⟩,fun b _ hb=>lv b hb,rfl⟩
 have hh:=h.heap;refine⟨h.defers,h.size,fun t=>(h.tm t).mono e,?_,h.evo.trans e,h.base⟩;refine⟨fun i D b g1 g2 g3=>?_,fun i D g1 g2 g3=>?_,fun i i2 D D2 b g1 g2 g3 g4 g5 g6=>?_,fun i D b g1 g2 g3=>?_,hh.bound⟩
 ·obtain ⟨D0,e1,e2,e3,e4,e5⟩:=at_ g1;obtain⟨C,c1,c2,c3⟩:=hh.blk i D0 b e1 (e3▸g2) g3;refine⟨C,e2▸c1,by rw[e4];exact c2,fun n x hx=>?_⟩;rcases e5 with rfl|⟨rfl,rfl,e6⟩
  ·exact⟨(c3 n x hx).1,(c3 n x hx).2.mono e⟩
  ·rw [e6,JR] at hx;split at hx
   ·rename_i en;subst en;have hjl:j<D0.cells.length:=(Jb.1 hd).1;simp[hjl] at hx;subst hx;exact⟨h1,(hr _ (c3 j d hd).2).mono e⟩
   ·exact⟨(c3 n x hx).1,(c3 n x hx).2.mono e⟩
 ·obtain ⟨D0,e1,e2,e3,e4,e5⟩:=at_ g1;have:=hh.none i D0 e1 (e3▸g2) g3;rw[this] at e4;exact List.length_eq_zero_iff.1 e4
 ·obtain ⟨D0,e1,e2,e3,_⟩:=at_ g1;obtain⟨D1,f1,f2,f3,_⟩:=at_ g2;exact hh.inj i i2 D0 D1 b e1 f1 (e3▸g3) (f3▸g4) g5 g6
 ·obtain ⟨D0,e1,e2,e3,_⟩:=at_ g1;exact hh.avoid i D0 b e1 (e3▸g2) g3
def VWp.nilOwnC (k j:Nat) (T:TypeId) (sz:Nat) (hk:S.hp[k]? = some B) (hd:B.cells[j]? = some (.pv (.slc []))) (h:VWp P c Q ⟨S.nt,S.base,S.tm,(S.hp ++ [(⟨T,true,[]⟩:Blk)]).set k ⟨B.ty,B.live,B.cells.set j (.own S.hp.length sz 0 0)⟩⟩):VWp P c Q S:=fun O β a w hs=>by
 have e:Evo w β S.hp w (ext β S.hp.length none) (S.hp++[(⟨T,true,[]⟩:Blk)]):=by
  refine⟨rfl,rfl,rfl,Jo _,vv,fun j hj=>cG hj,fun _ _ _=>rfl,fun _ C _ m h=>⟨C,m,h,rfl⟩,fun b _ hb=>?_,rfl⟩;obtain⟨j,D,g1,g2,g3⟩:=hb;rcases KD j S.hp.length with hlt|heq|hgt
  ·rw[Jh hlt] at g1;rw[cG hlt] at g3;exact⟨j,D,g1,g2,g3⟩
  ·subst heq;simp[ext] at g3
  ·rw[Jm vz,Jt vg] at g1;simp at g1
 have h2:Sim O (ext β S.hp.length none) ⟨S.nt,S.base,S.tm,S.hp++[⟨T,true,[]⟩]⟩ a w:=
  ⟨hs.defers,hs.size,fun u=>(hs.tm u).mono e,rU hs.heap rfl e vv (fun _=>rfl) (fun _ _=>rfl),hs.evo.trans e,hs.base⟩
 have hlt:k<S.hp.length:=(Jb.1 hk).1;refine h O _ a w (Zi h2 (k:=k) (j:=j) (B:=B) (d:=.pv (.slc [])) (d':=.own S.hp.length sz 0 0) (by show(S.hp++_)[k]?=_;rw[Jh hlt];exact hk) hd rfl ?_);intro v hv;cases hv with
 |pv _ _ hp0=>cases hp0 with
   |slc _ ad sz2 val g1 g2 g3 g4 g5=>exact .own0 _ _ ad vv (by simp[ext]) trivial
def VLoop.nilOwnC(k j:Nat)(T:TypeId)(sz:Nat)(hk:S.hp[k]?=some B)(hd:B.cells[j]?=some (.pv (.slc [])))(h:VLoop P c Q ⟨S.nt,S.base,S.tm,(S.hp++[(⟨T,true,[]⟩:Blk)]).set k ⟨B.ty,B.live,B.cells.set j (.own S.hp.length sz 0 0)⟩⟩):VLoop P c Q S:=VWp.nilOwnC k j T sz hk hd h
end Go.V
namespace Go.V
open Go
def Blk.wk(B:Blk):Blk:=⟨B.ty,B.live,DV.wk.go B.cells⟩
def fm(tm:List (Nat×DV)):List (Nat×DV):=tm.map fun p=>(p.1,p.2.wk)
def bC(hp:Qb):Qb:=hp.map Blk.wk
def DV.wk_one(d:DV)(h:d.one=true):d.wk.one=true:=by
 cases d<;>first|rfl|(simp[DV.one] at h)
def EP:∀(tm:List (Nat × DV)) (t:Nat),look (fm tm) t = (look tm t).wk
 |[],_=>rfl
 |(u,d) :: r,t=>by
   simp only[fm,Jr,look];split
   ·rfl
   ·exact EP r t
def xn(h:Sim O β S a w):Sim O β ⟨S.nt,S.base,fm S.tm,bC S.hp⟩ a w:=by
 have at_:∀{i:Nat} {D:Blk},(bC S.hp)[i]?=some D->∃D0,S.hp[i]?=some D0/\D=D0.wk:=by
  intro i D hi;rw[bC,Jd] at hi;obtain⟨x,h1,h2⟩:=QF hi;exact⟨x,h1,h2.symm⟩
 have lv:∀b,live β (bC S.hp) b->live β S.hp b:=by
  rintro b ⟨i,D,g1,g2,g3⟩;obtain⟨D0,e1,rfl⟩:=at_ g1;exact⟨i,D0,e1,g2,g3⟩
 have e:Evo w β S.hp w β (bC S.hp):=
  ⟨rfl,rfl,rfl,Jo _,by simp[bC],fun _ _=>rfl,fun _ _ _=>rfl,fun _ C _ m h=>⟨C,m,h,rfl⟩,fun b _ hb=>lv b hb,rfl⟩
 have hh:=h.heap;refine⟨h.defers,h.size,fun t=>by show RelD w β (bC S.hp) (look (fm S.tm) t) _;rw[EP];exact((h.tm t).mono e).wk,?_,h.evo.trans e,h.base⟩;refine⟨fun i D b g1 g2 g3=>?_,fun i D g1 g2 g3=>?_,fun i i2 D D2 b g1 g2 g3 g4 g5 g6=>?_,fun i D b g1 g2 g3=>?_,hh.bound⟩
 ·obtain ⟨D0,e1,rfl⟩:=at_ g1;obtain⟨C,c1,c2,c3⟩:=hh.blk i D0 b e1 g2 g3;refine⟨C,c1,by show(DV.wk.go D0.cells).length<=_;rw[eH,Je];exact c2,fun n x hx=>?_⟩;have hx2:(DV.wk.go D0.cells)[n]?=some x:=hx;rw[eH,Jd] at hx2;obtain⟨y,h1,h2⟩:=QF hx2;subst h2;exact⟨DV.wk_one _ (c3 n y h1).1,((c3 n y h1).2.mono e).wk⟩
 ·obtain ⟨D0,e1,rfl⟩:=at_ g1;have:=hh.none i D0 e1 g2 g3;show DV.wk.go D0.cells=[]
  rw[this];rfl
 ·obtain ⟨D0,e1,rfl⟩:=at_ g1;obtain⟨D1,f1,rfl⟩:=at_ g2;exact hh.inj i i2 D0 D1 b e1 f1 g3 g4 g5 g6
 ·obtain ⟨D0,e1,rfl⟩:=at_ g1;exact hh.avoid i D0 b e1 g2 g3
def VWp.wkS(h:VWp P c Q ⟨S.nt,S.base,fm S.tm,bC S.hp⟩):VWp P c Q S:=fun O β a w hs=>h O β a w (xn hs)
def VLoop.wkS(h:VLoop P c Q ⟨S.nt,S.base,fm S.tm,bC S.hp⟩):VLoop P c Q S:=VWp.wkS h
end Go.V
namespace Go.V
open Go
structure FzN(n:Nat)(S S':St):Prop where
 nt:S'.nt=S.nt
 base:S'.base=S.base
 lo:S.base<=n
 hi:n<=S.hp.length
 hp:fw n S.hp=some S'.hp
 tm:sQ n S.hp S.tm S'.tm
def Sim.fzN(h:Sim O β S a w)(g:FzN n S S'):Sim O β S' a w:=by
 have one:∀{d:DV} {v:Value} {d':DV},RelD w β S.hp d v->frz n S.hp d=some d'->RelD w β S'.hp d' v/\HeapRel w β S'.hp/\S'.hp.length=n/\∀b,live β S'.hp b->live β S.hp b:=by
  intro d v d' hd hf;obtain⟨e,hp',⟨r1,r2⟩,k2,k3,k4,k5⟩:=se h.heap g.hi hd (R:=fun e hp'=>e=d'/\hp'=S'.hp) (by unfold gA;rw[hf,g.hp];exact⟨rfl,rfl⟩);subst r1 r2;exact⟨k2,k3,k4,k5⟩
 obtain⟨_,k3,k4,k5⟩:=one (d:=.any) (v:=undef) (d':=.any) (.any _) rfl;refine⟨h.defers,by rw[g.nt];exact h.size,fun t=>?_,k3,?_,h.base.trans g.base.symm⟩
 ·rcases xm g.tm t with e|e
  ·rw[e];exact .any _
  ·exact(one (h.tm t) e).1
 ·have ev:=h.evo;exact⟨ev.os,ev.tape,ev.output,ev.size,by rw[k4];have:=h.base;have:=g.lo;omega,ev.beta,ev.same,ev.shape,fun b hb hl=>ev.im b hb (k5 b hl),ev.X⟩
def sR(S S':St):Prop:=gC S S'\/∃n S1,gC S S1/\FzN n S1 S'
def Sim.weakN(h:Sim O β S a w)(g:sR S S'):∃β',Sim O β' S' a w:=by
 rcases g with g|⟨n,S1,g1,g2⟩
 ·exact h.weak g
 ·obtain ⟨β',h'⟩:=h.weak g1;exact⟨β',h'.fzN g2⟩
def VWp.weakN(S':St)(g:sR S S')(h:VWp P c Q S'):VWp P c Q S:=fun O β a w hs=>
 let ⟨β',hs'⟩:=hs.weakN g
 h O β' a w hs'
def GL {c:Code} {Q:Exit->St->Prop} {ι:Type} (I:ι->St) (μ:ι->Nat) (i₀:ι) (h₀:sR S (I i₀)) (round:∀i,QH P c (fe Q fun S'=>∃j,μ j < μ i/\sR S' (I j)) (I i)):VLoop P c Q S:=by
 intro O β a w hs b k cs
 have key:∀n β i a w,μ i = n->Sim O β (I i) a w ->
  ∃e a' w',du O Q e a' w'/\Arrives P (lone (b.at a (.code c::.inLoop c::k)) cs w) b k cs e a' w':=by
  intro n;induction n using KA with
  |_ n ih =>
    intro β i a w hn hs;obtain⟨e,a₁,w₁,hq,harr⟩:=Qx c _ _ (round i) O β a w hs b (.inLoop c::k) cs;obtain⟨β₁,S₁,hs₁,hq⟩:=hq;cases e with
    |normal =>
      obtain⟨j,hlt,hle⟩:=hq;obtain⟨β₂,hs₂⟩:=hs₁.weakN hle;obtain⟨e₂,a₂,w₂,hq₂,harr₂⟩:=ih (μ j) (hn▸hlt) β₂ j a₁ w₁ rfl hs₂;exact⟨e₂,a₂,w₂,hq₂,.of_steps (Steps.trans harr (.one step_inLoop)) harr₂⟩
    |exit id=>exact⟨_,a₁,w₁,⟨β₁,S₁,hs₁,hq⟩,.pass (x:=.inLoop c) rfl (fun _ _=>.inl vv) harr⟩
    |goto l=>exact⟨_,a₁,w₁,⟨β₁,S₁,hs₁,hq⟩,.pass (x:=.inLoop c) rfl (fun _ _=>.inl vv) harr⟩
    |ret=>exact⟨_,a₁,w₁,⟨β₁,S₁,hs₁,hq⟩,.pass (x:=.inLoop c) rfl (fun _ _=>.inl vv) harr⟩
    |panic ch=>exact⟨_,a₁,w₁,⟨β₁,S₁,hs₁,hq⟩,.pass (x:=.inLoop c) rfl (fun _ _=>.inl vv) harr⟩
    |outgrown=>exact⟨_,a₁,w₁,⟨β₁,S₁,hs₁,hq⟩,.pass (x:=.inLoop c) rfl (fun _ _=>.inl vv) harr⟩
 obtain⟨β₀,hs₀⟩:=hs.weakN h₀;obtain⟨e,a',w',hq,harr⟩:=key _ β₀ i₀ a w rfl hs₀;exact⟨e,a',w',hq,.of_steps (.one step_loop) harr⟩
end Go.V
namespace Go.V
def ny(h:n<=140737488355328):(n<=140737488355328)=True:=eq_true h
end Go.V
namespace Go.V
def nw(e:Enc α)(l:List α)(T:TypeId)(a b:Nat)(h:a<=b/\b<=l.length):cO (some (none,T,e.sz)) (fz e l) a b=some (.pv (.sl (fz e ((l.take b).drop a)))):=by
 have h1:fz e l=[]\/(fz e l)[0]?.map KK=some e.sz:=by
  cases l with
  |nil=>exact .inl rfl
  |cons x r=>exact .inr (pP e (x::r) vv)
 simp only[cO];rw[if_pos ⟨h.1,by rw[tJ];exact h.2,h1⟩,yt,YI]
end Go.V
namespace Go.V
def jW(e:Enc α)(l:List α):(fz e l=[]\/(fz e l)[0]?.map KK=some e.sz)=True:=by
 refine eq_true ?_;cases l with
 |nil=>exact .inl rfl
 |cons x r=>exact .inr (pP e (x::r) vv)
def nz(n:Nat):((n:Int)+1).toNat=n+1:=vz
def lD(n:Nat):((n:Int)-1).toNat=n-1:=vz
end Go.V
namespace Go.V
open Go
attribute [go_sem ↓] Vb Vc Vd Vj Vk Vl Vm Vn Vo Vp Vq Vr Vs Vt Vu Vv Vw Vx Vy Xl Xm Xn Xo Xp Xq Xr Xs Xt Xu Xv Xw Xx Xy Xz XA XB XC XD XE Yr Ys Yv
attribute [go_sem] SN SO SP SQ SR SS SU SV SW SX SY SZ S4 S5 S6 S7 S8 S9 Ta Tc Td Te Tf Tg Th Ti Tj Tk Tl Tm Tn Tp Tq Tt Tu Tv Tw Ty TA TB TC TD TE TF TG TH TI TJ TK TL TM TN TO TP TQ TR TS TT TU TV TY TZ T3 T4 T5 T6 T7 T8 T9 Us Ut Uu Uv Uw Ux Uy Uz UA UB UC UD UE UF UG UH UI UJ UK UL UM UN UO UP UQ UR US UT UU UV UW UX UY UZ U0 U1 U2 U3 U4 U5 U6 U7 U8 U9 Va Ve Vf Vg Vh Vi Vz VA VB VC VD VE VF VG VH VI yh VJ VL VM VN VO VQ VS VT VU VV VW VX VY VZ V0 V1 V3 V4 V5 V6 V7 V8 V9 Wa Wb Wc Wd We Wg Wh Wi Wj Wl Wm Wn yg Wo Wp Wq Wr Ws Wt Wu Wv Ww Wx Wy Wz WA WB WC WD WE WG WH WI WJ WK WL WM WN ji WO WQ WR WS WT WU WV WW WX WY WZ W0 W1 W2 W3 W4 W5 W6 W7 W8 W9 Xa Xb Xc Xd Xe Xf Xg Ea Xh Xi Xj Xk XF XG XH XI XJ XK XL XM XN XO XP XQ XR XS XT XU XV XW XX XY XZ X0 X3 pvs List.flatten_nil KR fa oJ fJ mJ cX dM vN kY oN V.kill gx V.rows List.toList_toArray List.getElem?_cons_zero KN List.getElem?_nil Jc Jg Jr Kh KT KS K5 List.take_zero List.take_nil K6 Km List.drop_nil List.set_cons_zero List.set_cons_succ List.any_nil List.any_cons Jw Option.map_none Kt Ks Option.getD_none Option.isSome_some Option.isSome_none Kc Int.toNat_natCast Ju Nat.add_zero Ul Ur KL decide_true decide_false true_and and_true and_self false_and and_false true_or or_true or_false false_or or_self not_true_eq_false not_false_eq_true ne_eq Kf Ka Bool.or_true Bool.true_or Bool.or_false Bool.false_or Bool.and_true Bool.true_and Bool.and_false Bool.false_and Bool.or_self Bool.and_self Bool.not_not SG SH cond_true cond_false Bool.cond_self beq_self_eq_true Nat.lt_irrefl Jo Yt Yu Yo Yp Yq Yw Yx Yy Yz YA YB YC YD YE YF YG Op.operands YQ Cb YM YN YO tJ CV rh YK Jk BI pQ Ey DV.wk DV.wk.go PV.wk YP Y6 Ca Y7 Y8 Y9 Zb Zd Ze Zf Sy Sz SA SB SC SD SE SF Ret DV.nums DV.nums.go
end Go.V
namespace Go.V
def polyB:BitVec 32:=2197175160#32
def rb(r:BitVec 32):BitVec 32:=(r >>> 1) ^^^ (if r.getLsbD 0=true then polyB else 0#32)
def rbN:Nat->BitVec 32->BitVec 32
 |0,r=>r
 |n+1,r=>rb (rbN n r)
def Zj(x y:BitVec 32):rb (x ^^^ y)=rb x ^^^ rb y:=by
 apply BitVec.eq_of_getLsbD_eq
 intro i hi;simp only[rb,BitVec.getLsbD_xor,BitVec.getLsbD_ushiftRight];cases x.getLsbD 0<;>cases y.getLsbD 0<;>simp<;>cases x.getLsbD (1+i)<;>cases y.getLsbD (1+i)<;>cases polyB.getLsbD i<;>rfl
def Fw(n:Nat)(x y:BitVec 32):rbN n (x ^^^ y)=rbN n x ^^^ rbN n y:=by
 induction n with
 |zero=>rfl
 |succ n ih=>simp only[rbN,ih,Zj]
def Fx(m n:Nat)(x:BitVec 32):rbN (m+n) x=rbN m (rbN n x):=by
 induction m with
 |zero=>simp[rbN]
 |succ m ih=>rw[K8];simp only[rbN,ih]
def Zl (n:Nat) (x:BitVec 32) (h:∀i,i < n->x.getLsbD i = false):rbN n x = x >>> n:=by
 induction n with
 |zero=>simp[rbN]
 |succ n ih =>
   rw[rbN,ih (fun i hi=>h i vz),rb];have e:(x >>> n).getLsbD 0=false:=by rw[BitVec.getLsbD_ushiftRight];exact h _ vz
   rw[e];simp[BitVec.shiftRight_add]
def b32(b:UInt8):BitVec 32:=b.toBitVec.setWidth 32
def cb(r:BitVec 32)(b:UInt8):BitVec 32:=rbN 8 (r ^^^ b32 b)
def le:List UInt8->BitVec 32
 |[]=>0#32
 |b::l=>b32 b ^^^ (le l <<< 8)
def Fv(x:BitVec 32)(n:Nat)(h:∀i,32-n<=i->x.getLsbD i=false)(hn:n<=32):rbN n (x <<< n)=x:=by
 rw[Zl _ _ (fun i hi=>by simp[BitVec.getLsbD_shiftLeft,hi])];grind
def xo(b:BitVec 32):IntKind.u32.wrap (b.toNat:Int)=(b.toNat:Int):=by
 have:=b.isLt;simp[IntKind.wrap,IntKind.signed,IntKind.bits];omega
def sS(x:BitVec 32):BitVec.ofInt 32 (x.toNat:Int)=x:=by
 grind
def np(x y:BitVec 32):bits .xor .u32 (x.toNat:Int) (y.toNat:Int)=((x ^^^ y).toNat:Int):=by
 show IntKind.u32.wrap ((BitVec.ofInt 32 (x.toNat:Int) ^^^ BitVec.ofInt 32 (y.toNat:Int)).toNat:Int)=_
 rw[sS,sS,xo]
def xF(x y:BitVec 32):bits .and .u32 (x.toNat:Int) (y.toNat:Int)=((x &&& y).toNat:Int):=by
 show IntKind.u32.wrap ((BitVec.ofInt 32 (x.toNat:Int) &&& BitVec.ofInt 32 (y.toNat:Int)).toNat:Int)=_
 rw[sS,sS,xo]
def xG(x:BitVec 32)(n:Nat):(x.toNat:Int).fdiv (2 ^ n)=((x >>> n).toNat:Int):=by
 have e:((2:Int) ^ n)=((2 ^ n:Nat):Int):=by rw[Int.natCast_pow];rfl
 rw[e,Int.fdiv_eq_ediv_of_nonneg _ (Int.natCast_nonneg _),BitVec.toNat_ushiftRight,Nat.shiftRight_eq_div_pow];rfl
def xK(b:UInt8):IntKind.u32.wrap (b.toNat:Int)=((b32 b).toNat:Int):=by
 have e:(b32 b).toNat=b.toNat:=by
  have:=b.toNat_lt;simp[b32]
 rw[<-e,xo]
end Go.V
namespace Go.V
open Go
variable {α:Type} (e:Enc α)
theorem tA(l:List α)(i:Nat)(x:α)(h:i<l.length):splice (cells e l) (i*e.sz) ((e.enc x).map DV.pv)=cells e (l.set i x):=by
 have:=Y5 e l [x] i;rw[Kk,if_pos h];rw[show l.take i++x::l.drop (i+1)=l.take i++[x]++l.drop (i+[x].length) by simp,<-this];congr 1;simp[cells]
theorem B4(p:Nat->Bool)(z:List DV)(h:DV.nums.go p z=true):∀n,DV.nums.go p (mk z n)=true
 |0=>rfl
 |n+1=>YJ h (B4 p z h n)
end Go.V
namespace Go.V
open Go
def Zm(hh:HeapRel w β hp):HeapRel w β (bC hp)/\Evo w β hp w β (bC hp):=by
 have at_:∀{i:Nat} {D:Blk},(bC hp)[i]?=some D->∃D0,hp[i]?=some D0/\D=D0.wk:=by
  intro i D hi;rw[bC,Jd] at hi;obtain⟨x,h1,h2⟩:=QF hi;exact⟨x,h1,h2.symm⟩
 have lv:∀b,live β (bC hp) b->live β hp b:=by
  rintro b ⟨i,D,g1,g2,g3⟩;obtain⟨D0,e1,rfl⟩:=at_ g1;exact⟨i,D0,e1,g2,g3⟩
 have e:Evo w β hp w β (bC hp):=
  ⟨rfl,rfl,rfl,Jo _,by simp[bC],fun _ _=>rfl,fun _ _ _=>rfl,fun _ C _ m h=>⟨C,m,h,rfl⟩,fun b _ hb=>lv b hb,rfl⟩
 refine⟨⟨fun i D b g1 g2 g3=>?_,fun i D g1 g2 g3=>?_,fun i i2 D D2 b g1 g2 g3 g4 g5 g6=>?_,fun i D b g1 g2 g3=>?_,hh.bound⟩,e⟩
 ·obtain ⟨D0,e1,rfl⟩:=at_ g1;obtain⟨C,c1,c2,c3⟩:=hh.blk i D0 b e1 g2 g3;refine⟨C,c1,by show(DV.wk.go D0.cells).length<=_;rw[eH,Je];exact c2,fun n x hx=>?_⟩;have hx2:(DV.wk.go D0.cells)[n]?=some x:=hx;rw[eH,Jd] at hx2;obtain⟨y,h1,h2⟩:=QF hx2;subst h2;exact⟨DV.wk_one _ (c3 n y h1).1,((c3 n y h1).2.mono e).wk⟩
 ·obtain ⟨D0,e1,rfl⟩:=at_ g1;have:=hh.none i D0 e1 g2 g3;show DV.wk.go D0.cells=[]
  rw[this];rfl
 ·obtain ⟨D0,e1,rfl⟩:=at_ g1;obtain⟨D1,f1,rfl⟩:=at_ g2;exact hh.inj i i2 D0 D1 b e1 f1 g3 g4 g5 g6
 ·obtain ⟨D0,e1,rfl⟩:=at_ g1;exact hh.avoid i D0 b e1 g2 g3
def VCalls.wkH(c:VCalls P g (DV.wk.go args) (bC hp) R):VCalls P g args hp R:=by
 refine VCalls.wkA ⟨fun w β vs hh ha=>?_⟩;obtain⟨h1,e1⟩:=Zm hh;refine(c.run w β vs h1 ⟨ha.1,fun i d hd=>(ha.2 i d hd).mono e1⟩).mono ?_;rintro _ w' ⟨v,r,h',β',a,b,c,d,k⟩;exact⟨v,r,h',β',a,e1.trans b,c,d,k⟩
theorem pV:bC []=[]:=rfl
theorem pW:bC (B::r)=⟨B.ty,B.live,DV.wk.go B.cells⟩::bC r:=rfl
theorem pX:DV.wk.go []=[]:=rfl
theorem pY:DV.wk.go (d::r)=d.wk::DV.wk.go r:=rfl
end Go.V
namespace Go.V
open Go
end Go.V
namespace Go.V
open Go
def SimLe(S S':St):Prop:=∀(O:Org) (β:Map) (a:Act) (w:World),Sim O β S a w->∃β',Sim O β' S' a w
def SimLe.refl(S:St):SimLe S S:=fun _ β _ _ h=>⟨β,h⟩
def SimLe.trans(h:SimLe S S1)(g:SimLe S1 S2):SimLe S S2:=fun O β a w hs=>
 let ⟨β1,h1⟩:=h O β a w hs
 g O β1 a w h1
def SimLe.weak(h:gC S S'):SimLe S S':=fun _ _ _ _ hs=>hs.weak h
def SimLe.fzN(h:FzN n S S'):SimLe S S':=fun _ β _ _ hs=>⟨β,hs.fzN h⟩
def SimLe.wk(h:SimLe ⟨S.nt,S.base,fm S.tm,bC S.hp⟩ S'):SimLe S S':=fun O β a w hs=>h O β a w (xn hs)
def VWp.simLe(S':St)(g:SimLe S S')(h:VWp P c Q S'):VWp P c Q S:=fun O β a w hs=>
 let ⟨β',hs'⟩:=g O β a w hs
 h O β' a w hs'
def VLoop.simLe(S':St)(g:SimLe S S')(h:VLoop P c Q S'):VLoop P c Q S:=VWp.simLe S' g h
def VDraw.simLe{id:Nat}(S':St)(g:SimLe S S')(h:VDraw P id ops Q S'):VDraw P id ops Q S:=VWp.simLe S' g h
def ng:Nat->Code->Code
 |n+1,.seq a b=>.seq a (ng n b)
 |_,_=>.skip
def eM:Nat->Code->Code
 |n+1,.seq _ b=>eM n b
 |_,c=>c
def tF:∀(n:Nat) {c:Code} {Q:Exit->St->Prop} {S:St},QH P (ng n c) (fe Q fun S'=>∃S'',SimLe S' S''/\VWp P (eM n c) Q S'') S->VWp P c Q S
 |0,c,Q,S,h=>by
   have h:∃S'',SimLe S S''/\VWp P (eM 0 c) Q S'':=by cases c<;>exact h
   obtain⟨S'',h1,h2⟩:=h;cases c<;>exact VWp.simLe S'' h1 h2
 |n + 1,c,Q,S,h=>by
   cases c with
   |seq a b =>
     intro O β ac w hs;simp only[ng,QH] at h;refine wp_seq (wp_mono (Qx a _ S h O β ac w hs) fun e a' w' hq=>?_);obtain⟨β',S',hs',hq⟩:=hq;cases e with
     |normal=>exact tF n (c:=b) hq O β' a' w' hs'
     |_=>exact⟨β',S',hs',hq⟩
   |_ =>
     obtain⟨S'',h1,h2⟩:=(h:∃S'',SimLe S S''/\_)
     exact VWp.simLe S'' h1 h2
theorem yc:fm []=[]:=rfl
theorem yd:fm ((t,d)::r)=(t,d.wk)::fm r:=rfl
def yf(a b:List DV):DV.wk.go (a++b)=DV.wk.go a++DV.wk.go b:=by rw[eH,eH,eH,Kx]
theorem nH:ng (n+1) (.seq a b)=.seq a (ng n b):=rfl
def nI:ng 0 c=.skip:=by cases c<;>rfl
theorem iv:eM (n+1) (.seq a b)=eM n b:=rfl
def iw:eM 0 c=c:=by cases c<;>rfl
def Gb(h:QH P c Q ⟨S.nt,S.base,fm S.tm,bC S.hp⟩):∃S'',SimLe S S''/\VWp P c Q S'':=
 ⟨_,.wk (.refl _),Qx _ _ _ h⟩
def lY(P:Program)(rs:List ResultVar)(n:Nat)(R:DV->Qb->Prop)(e:Exit)(S:St):Prop:=eG P rs n R e ⟨S.nt,S.base,fm S.tm,bC S.hp⟩
def Zn:lY P rs n R .ret S=eG P rs n R .ret ⟨S.nt,S.base,fm S.tm,bC S.hp⟩:=(rfl)
def VWp.postK(h:VWp P c (lY P rs n R) S):VWp P c (eG P rs n R) S:=fun O β a w hs=>
 wp_mono (h O β a w hs) fun _ _ _ ⟨β',_,hs',hq⟩=>⟨β',_,xn hs',hq⟩
def ER(hf:P.funcs[g]?=some fn)(hb:fn.body=some c)(hname:(fn.name == "runtime.NumGoroutine")=false)(hn:args.length<=fn.ntmps)(hc:QH P c (lY P fn.results.toList h.length R) ⟨fn.ntmps,h.length,bj 0 args,h⟩):VCalls P g args h R:=
 tE hf hb hname hn (Qx c _ _ hc).postK
attribute [go_sem ↓] Zn
attribute [go_sem] yc yd pV pW pX pY
end Go.V
namespace Go.V
open Go
variable {α:Type} (e:Enc α)
theorem CP(l:List α)(i j:Nat)(t:α)(p:PV)(hi:i<l.length)(hj:j<e.sz)(h:e.enc t=(e.enc l[i]).set j p):(cells e l).set (i*e.sz+j) (.pv p)=cells e (l.set i t):=by
 have h1:cells e l=cells e (l.take i)++((e.enc l[i]).map DV.pv++cells e (l.drop (i+1))):=by
  conv=>lhs;rw[<-KU i l,KC hi,QC,QG]
 have h2:cells e (l.set i t)=cells e (l.take i)++((e.enc t).map DV.pv++cells e (l.drop (i+1))):=by
  rw[Kk,if_pos hi,QC,QG]
 have hl:(cells e (l.take i)).length=i*e.sz:=by rw[QK,Jv,Nat.min_eq_left vz]
 rw[h1,h2,KV (i*e.sz+j) (DV.pv p) vz,hl,KM,Ku j (DV.pv p) (by rw[Je,e.hlen];exact hj),h,Uc]
end Go.V
namespace Go.V
open Go
def rn{A P Q:Prop}(a:A)(q:Q)(h:A->P=Q:=by intro f1;(try simp(maxSteps:=2000000) (implicitDefEqProofs:=false) (disch:=first|omega|assumption|(simp only[List.length_cons,List.length_nil,Nat.zero_add,Nat.reduceAdd];done)|(simp only[IntKind.wrap_i64];omega)|(simp only[List.length_replicate,List.length_set,List.length_append,List.length_cons,List.length_nil,List.length_take,List.length_drop,List.length_map]<;>omega)|fail) only[go_sem,V.splice,V.mk,mkI,mkB,mkU,↓reduceIte,reduceCtorEq,Nat.reduceAdd,Nat.reduceLT,Nat.reduceLeDiff,Nat.reduceEqDiff,Nat.reduceMul,Nat.reduceSub,Nat.reduceBEq,Nat.reduceDiv,Nat.reducePow,Int.reduceToNat,Int.reduceLT,Int.reduceLE,Int.reduceNeg,Int.reduceAdd,Int.reduceSub,Int.reduceMul,Int.reduceEq,Int.reduceBEq,Int.reduceBNe,f1]);exact rfl):P:=(h a).mpr q
def rd{A P:Prop}(a:A)(h:A->P:=by intro f1; first | (simp(maxSteps:=2000000) (implicitDefEqProofs:=false) (disch:=first | omega | assumption | (simp only[List.length_cons,List.length_nil,Nat.zero_add,Nat.reduceAdd]; done) | (simp only[IntKind.wrap_i64]; omega) | (simp only[List.length_replicate,List.length_set,List.length_append,List.length_cons,List.length_nil,List.length_take,List.length_drop,List.length_map]<;>omega) | fail) only[go_sem,V.splice,V.mk,mkI,mkB,mkU,↓reduceIte,reduceCtorEq,Nat.reduceAdd,Nat.reduceLT,Nat.reduceLeDiff,Nat.reduceEqDiff,Nat.reduceMul,Nat.reduceSub,Nat.reduceBEq,Nat.reduceDiv,Nat.reducePow,Int.reduceToNat,Int.reduceLT,Int.reduceLE,Int.reduceNeg,Int.reduceAdd,Int.reduceSub,Int.reduceMul,Int.reduceEq,Int.reduceBEq,Int.reduceBNe,f1]<;>fail "no") | fail "no"):P:=h a
def sG{A X Y Q1 Q2:Prop}{all:List Oper}{o:Oper}{r:List Oper}{K:St->Prop}{G:Bool}(a:A)(q1:X->Q1)(q2:Y->Q2)(hx:(G=true)=X:=by(try simp only[decide_eq_true_eq,decide_eq_false_iff_not,Bool.or_eq_true,Bool.and_eq_true,Bool.or_eq_false_iff,Bool.and_eq_false_imp,Bool.not_eq_true',Bool.not_eq_false',beq_iff_eq,beq_eq_false_iff_ne,bne_iff_ne,bne_eq_false_iff_eq,ne_eq,Bool.not_eq_eq_eq_not,Bool.not_true,Bool.not_false,Int.not_lt,Int.not_le,Nat.not_lt,Nat.not_le]);exact rfl)(hy:(G=false)=Y:=by(try simp only[decide_eq_true_eq,decide_eq_false_iff_not,Bool.or_eq_true,Bool.and_eq_true,Bool.or_eq_false_iff,Bool.and_eq_false_imp,Bool.not_eq_true',Bool.not_eq_false',beq_iff_eq,beq_eq_false_iff_ne,bne_iff_ne,bne_eq_false_iff_eq,ne_eq,Bool.not_eq_eq_eq_not,Bool.not_true,Bool.not_false,Int.not_lt,Int.not_le,Nat.not_lt,Nat.not_le]);exact rfl)(h1:A->X->G=true->(fg P all o r K S true)=Q1:=by intro f1 hZ hG;(try rewrite [hG]);(first|rewrite [(hZ:_=false)]|rewrite [(hZ:_=true)]|skip);(try simp(maxSteps:=2000000) (implicitDefEqProofs:=false) (disch:=first|omega|assumption|(simp only[List.length_cons,List.length_nil,Nat.zero_add,Nat.reduceAdd];done)|(simp only[IntKind.wrap_i64];omega)|(simp only[List.length_replicate,List.length_set,List.length_append,List.length_cons,List.length_nil,List.length_take,List.length_drop,List.length_map]<;>omega)|fail) only[go_sem,V.splice,V.mk,mkI,mkB,mkU,↓reduceIte,reduceCtorEq,Nat.reduceAdd,Nat.reduceLT,Nat.reduceLeDiff,Nat.reduceEqDiff,Nat.reduceMul,Nat.reduceSub,Nat.reduceBEq,Nat.reduceDiv,Nat.reducePow,Int.reduceToNat,Int.reduceLT,Int.reduceLE,Int.reduceNeg,Int.reduceAdd,Int.reduceSub,Int.reduceMul,Int.reduceEq,Int.reduceBEq,Int.reduceBNe,f1]);exact rfl)(h2:A->Y->G=false->(fg P all o r K S false)=Q2:=by intro f1 hZ hG;(try rewrite [hG]);(first|rewrite [(hZ:_=false)]|rewrite [(hZ:_=true)]|skip);(try simp(maxSteps:=2000000) (implicitDefEqProofs:=false) (disch:=first|omega|assumption|(simp only[List.length_cons,List.length_nil,Nat.zero_add,Nat.reduceAdd];done)|(simp only[IntKind.wrap_i64];omega)|(simp only[List.length_replicate,List.length_set,List.length_append,List.length_cons,List.length_nil,List.length_take,List.length_drop,List.length_map]<;>omega)|fail) only[go_sem,V.splice,V.mk,mkI,mkB,mkU,↓reduceIte,reduceCtorEq,Nat.reduceAdd,Nat.reduceLT,Nat.reduceLeDiff,Nat.reduceEqDiff,Nat.reduceMul,Nat.reduceSub,Nat.reduceBEq,Nat.reduceDiv,Nat.reducePow,Int.reduceToNat,Int.reduceLT,Int.reduceLE,Int.reduceNeg,Int.reduceAdd,Int.reduceSub,Int.reduceMul,Int.reduceEq,Int.reduceBEq,Int.reduceBNe,f1]);exact rfl):fg P all o r K S G:=
 yu (fun e=>by subst e;exact(h1 a (hx▸rfl) rfl).mpr (q1 (hx▸rfl))) (fun e=>by subst e;exact(h2 a (hy▸rfl) rfl).mpr (q2 (hy▸rfl)))
def sD{A X Y Q1 Q2:Prop}{all:List Oper}{o:Oper}{r:List Oper}{fs:List (List Nat×Bool)}{K:St->Prop}{G:Bool}(a:A)(q1:X->Q1)(q2:Y->Q2)(hx:(G=true)=X:=by(try simp only[decide_eq_true_eq,decide_eq_false_iff_not,Bool.or_eq_true,Bool.and_eq_true,Bool.or_eq_false_iff,Bool.and_eq_false_imp,Bool.not_eq_true',Bool.not_eq_false',beq_iff_eq,beq_eq_false_iff_ne,bne_iff_ne,bne_eq_false_iff_eq,ne_eq,Bool.not_eq_eq_eq_not,Bool.not_true,Bool.not_false,Int.not_lt,Int.not_le,Nat.not_lt,Nat.not_le]);exact rfl)(hy:(G=false)=Y:=by(try simp only[decide_eq_true_eq,decide_eq_false_iff_not,Bool.or_eq_true,Bool.and_eq_true,Bool.or_eq_false_iff,Bool.and_eq_false_imp,Bool.not_eq_true',Bool.not_eq_false',beq_iff_eq,beq_eq_false_iff_ne,bne_iff_ne,bne_eq_false_iff_eq,ne_eq,Bool.not_eq_eq_eq_not,Bool.not_true,Bool.not_false,Int.not_lt,Int.not_le,Nat.not_lt,Nat.not_le]);exact rfl)(h1:A->X->G=true->(fh P all o r fs K S true)=Q1:=by intro f1 hZ hG;(try rewrite [hG]);(first|rewrite [(hZ:_=false)]|rewrite [(hZ:_=true)]|skip);(try simp(maxSteps:=2000000) (implicitDefEqProofs:=false) (disch:=first|omega|assumption|(simp only[List.length_cons,List.length_nil,Nat.zero_add,Nat.reduceAdd];done)|(simp only[IntKind.wrap_i64];omega)|(simp only[List.length_replicate,List.length_set,List.length_append,List.length_cons,List.length_nil,List.length_take,List.length_drop,List.length_map]<;>omega)|fail) only[go_sem,V.splice,V.mk,mkI,mkB,mkU,↓reduceIte,reduceCtorEq,Nat.reduceAdd,Nat.reduceLT,Nat.reduceLeDiff,Nat.reduceEqDiff,Nat.reduceMul,Nat.reduceSub,Nat.reduceBEq,Nat.reduceDiv,Nat.reducePow,Int.reduceToNat,Int.reduceLT,Int.reduceLE,Int.reduceNeg,Int.reduceAdd,Int.reduceSub,Int.reduceMul,Int.reduceEq,Int.reduceBEq,Int.reduceBNe,f1]);exact rfl)(h2:A->Y->G=false->(fh P all o r fs K S false)=Q2:=by intro f1 hZ hG;(try rewrite [hG]);(first|rewrite [(hZ:_=false)]|rewrite [(hZ:_=true)]|skip);(try simp(maxSteps:=2000000) (implicitDefEqProofs:=false) (disch:=first|omega|assumption|(simp only[List.length_cons,List.length_nil,Nat.zero_add,Nat.reduceAdd];done)|(simp only[IntKind.wrap_i64];omega)|(simp only[List.length_replicate,List.length_set,List.length_append,List.length_cons,List.length_nil,List.length_take,List.length_drop,List.length_map]<;>omega)|fail) only[go_sem,V.splice,V.mk,mkI,mkB,mkU,↓reduceIte,reduceCtorEq,Nat.reduceAdd,Nat.reduceLT,Nat.reduceLeDiff,Nat.reduceEqDiff,Nat.reduceMul,Nat.reduceSub,Nat.reduceBEq,Nat.reduceDiv,Nat.reducePow,Int.reduceToNat,Int.reduceLT,Int.reduceLE,Int.reduceNeg,Int.reduceAdd,Int.reduceSub,Int.reduceMul,Int.reduceEq,Int.reduceBEq,Int.reduceBNe,f1]);exact rfl):fh P all o r fs K S G:=
 yv (fun e=>by subst e;exact(h1 a (hx▸rfl) rfl).mpr (q1 (hx▸rfl))) (fun e=>by subst e;exact(h2 a (hy▸rfl) rfl).mpr (q2 (hy▸rfl)))
def sB{A X Y Q1 Q2:Prop}{c d:Code}{Q:Exit->St->Prop}{G:Bool}(a:A)(q1:X->Q1)(q2:Y->Q2)(hx:(G=true)=X:=by(try simp only[decide_eq_true_eq,decide_eq_false_iff_not,Bool.or_eq_true,Bool.and_eq_true,Bool.or_eq_false_iff,Bool.and_eq_false_imp,Bool.not_eq_true',Bool.not_eq_false',beq_iff_eq,beq_eq_false_iff_ne,bne_iff_ne,bne_eq_false_iff_eq,ne_eq,Bool.not_eq_eq_eq_not,Bool.not_true,Bool.not_false,Int.not_lt,Int.not_le,Nat.not_lt,Nat.not_le]);exact rfl)(hy:(G=false)=Y:=by(try simp only[decide_eq_true_eq,decide_eq_false_iff_not,Bool.or_eq_true,Bool.and_eq_true,Bool.or_eq_false_iff,Bool.and_eq_false_imp,Bool.not_eq_true',Bool.not_eq_false',beq_iff_eq,beq_eq_false_iff_ne,bne_iff_ne,bne_eq_false_iff_eq,ne_eq,Bool.not_eq_eq_eq_not,Bool.not_true,Bool.not_false,Int.not_lt,Int.not_le,Nat.not_lt,Nat.not_le]);exact rfl)(h1:A->X->G=true->(QH P c Q S)=Q1:=by intro f1 hZ hG;(try rewrite [hG]);(first|rewrite [(hZ:_=false)]|rewrite [(hZ:_=true)]|skip);(try simp(maxSteps:=2000000) (implicitDefEqProofs:=false) (disch:=first|omega|assumption|(simp only[List.length_cons,List.length_nil,Nat.zero_add,Nat.reduceAdd];done)|(simp only[IntKind.wrap_i64];omega)|(simp only[List.length_replicate,List.length_set,List.length_append,List.length_cons,List.length_nil,List.length_take,List.length_drop,List.length_map]<;>omega)|fail) only[go_sem,V.splice,V.mk,mkI,mkB,mkU,↓reduceIte,reduceCtorEq,Nat.reduceAdd,Nat.reduceLT,Nat.reduceLeDiff,Nat.reduceEqDiff,Nat.reduceMul,Nat.reduceSub,Nat.reduceBEq,Nat.reduceDiv,Nat.reducePow,Int.reduceToNat,Int.reduceLT,Int.reduceLE,Int.reduceNeg,Int.reduceAdd,Int.reduceSub,Int.reduceMul,Int.reduceEq,Int.reduceBEq,Int.reduceBNe,f1]);exact rfl)(h2:A->Y->G=false->(QH P d Q S)=Q2:=by intro f1 hZ hG;(try rewrite [hG]);(first|rewrite [(hZ:_=false)]|rewrite [(hZ:_=true)]|skip);(try simp(maxSteps:=2000000) (implicitDefEqProofs:=false) (disch:=first|omega|assumption|(simp only[List.length_cons,List.length_nil,Nat.zero_add,Nat.reduceAdd];done)|(simp only[IntKind.wrap_i64];omega)|(simp only[List.length_replicate,List.length_set,List.length_append,List.length_cons,List.length_nil,List.length_take,List.length_drop,List.length_map]<;>omega)|fail) only[go_sem,V.splice,V.mk,mkI,mkB,mkU,↓reduceIte,reduceCtorEq,Nat.reduceAdd,Nat.reduceLT,Nat.reduceLeDiff,Nat.reduceEqDiff,Nat.reduceMul,Nat.reduceSub,Nat.reduceBEq,Nat.reduceDiv,Nat.reducePow,Int.reduceToNat,Int.reduceLT,Int.reduceLE,Int.reduceNeg,Int.reduceAdd,Int.reduceSub,Int.reduceMul,Int.reduceEq,Int.reduceBEq,Int.reduceBNe,f1]);exact rfl):vbr P c d Q S G:=
 fN (fun e=>by subst e;exact(h1 a (hx▸rfl) rfl).mpr (q1 (hx▸rfl))) (fun e=>by subst e;exact(h2 a (hy▸rfl) rfl).mpr (q2 (hy▸rfl)))
def vp{A Q:Prop}{g:FuncId}{args:List DV}{hp:Qb}{K:DV->Qb->Prop}{d:DV}(a:A)(c:VCalls P g args [] (Ret d))(q:Q)(ha:DV.nums.go (fun _=>false) args=true:=by rfl)(h:A->K d hp=Q:=by intro f1;(try simp(maxSteps:=2000000) (implicitDefEqProofs:=false) (disch:=first|omega|assumption|(simp only[List.length_cons,List.length_nil,Nat.zero_add,Nat.reduceAdd];done)|(simp only[IntKind.wrap_i64];omega)|(simp only[List.length_replicate,List.length_set,List.length_append,List.length_cons,List.length_nil,List.length_take,List.length_drop,List.length_map]<;>omega)|fail) only[go_sem,V.splice,V.mk,mkI,mkB,mkU,↓reduceIte,reduceCtorEq,Nat.reduceAdd,Nat.reduceLT,Nat.reduceLeDiff,Nat.reduceEqDiff,Nat.reduceMul,Nat.reduceSub,Nat.reduceBEq,Nat.reduceDiv,Nat.reducePow,Int.reduceToNat,Int.reduceLT,Int.reduceLE,Int.reduceNeg,Int.reduceAdd,Int.reduceSub,Int.reduceMul,Int.reduceEq,Int.reduceBEq,Int.reduceBNe,f1]);exact rfl):VCalls P g args hp K:=bZ c ha ((h a).mpr q)
def vd{A Q:Prop}{g:FuncId}{args:List DV}{K:DV->Prop}{d:DV}(a:A)(c:VCalls P g args [] (Ret d))(q:Q)(ha:DV.nums.go (fun _=>false) args=true:=by rfl)(hd:d.nums (fun _=>false)=true:=by rfl)(h:A->K d=Q:=by intro f1;(try simp(maxSteps:=2000000) (implicitDefEqProofs:=false) (disch:=first|omega|assumption|(simp only[List.length_cons,List.length_nil,Nat.zero_add,Nat.reduceAdd];done)|(simp only[IntKind.wrap_i64];omega)|(simp only[List.length_replicate,List.length_set,List.length_append,List.length_cons,List.length_nil,List.length_take,List.length_drop,List.length_map]<;>omega)|fail) only[go_sem,V.splice,V.mk,mkI,mkB,mkU,↓reduceIte,reduceCtorEq,Nat.reduceAdd,Nat.reduceLT,Nat.reduceLeDiff,Nat.reduceEqDiff,Nat.reduceMul,Nat.reduceSub,Nat.reduceBEq,Nat.reduceDiv,Nat.reducePow,Int.reduceToNat,Int.reduceLT,Int.reduceLE,Int.reduceNeg,Int.reduceAdd,Int.reduceSub,Int.reduceMul,Int.reduceEq,Int.reduceBEq,Int.reduceBNe,f1]);exact rfl):vdc P g args K:=X5 c ha hd ((h a).mpr q)
def vl{A Q:Prop}{g:FuncId}{args args0:List DV}{hp:Qb}{K:DV->Qb->Prop}{d:DV}(a:A)(c:VCalls P g args0 [] (Ret d))(q:Q)(ha:A->Qi (args.map (dp hp))=some args0:=by intro f1; first | (simp(maxSteps:=2000000) (implicitDefEqProofs:=false) (disch:=first | omega | assumption | (simp only[List.length_cons,List.length_nil,Nat.zero_add,Nat.reduceAdd]; done) | (simp only[IntKind.wrap_i64]; omega) | (simp only[List.length_replicate,List.length_set,List.length_append,List.length_cons,List.length_nil,List.length_take,List.length_drop,List.length_map]<;>omega) | fail) only[go_sem,V.splice,V.mk,mkI,mkB,mkU,↓reduceIte,reduceCtorEq,Nat.reduceAdd,Nat.reduceLT,Nat.reduceLeDiff,Nat.reduceEqDiff,Nat.reduceMul,Nat.reduceSub,Nat.reduceBEq,Nat.reduceDiv,Nat.reducePow,Int.reduceToNat,Int.reduceLT,Int.reduceLE,Int.reduceNeg,Int.reduceAdd,Int.reduceSub,Int.reduceMul,Int.reduceEq,Int.reduceBEq,Int.reduceBNe,f1]<;>fail "no") | fail "no")(hf:d.flat=true:=by rfl)(h:A->K d hp=Q:=by intro f1; (try simp(maxSteps:=2000000) (implicitDefEqProofs:=false) (disch:=first | omega | assumption | (simp only[List.length_cons,List.length_nil,Nat.zero_add,Nat.reduceAdd]; done) | (simp only[IntKind.wrap_i64]; omega) | (simp only[List.length_replicate,List.length_set,List.length_append,List.length_cons,List.length_nil,List.length_take,List.length_drop,List.length_map]<;>omega) | fail) only[go_sem,V.splice,V.mk,mkI,mkB,mkU,↓reduceIte,reduceCtorEq,Nat.reduceAdd,Nat.reduceLT,Nat.reduceLeDiff,Nat.reduceEqDiff,Nat.reduceMul,Nat.reduceSub,Nat.reduceBEq,Nat.reduceDiv,Nat.reducePow,Int.reduceToNat,Int.reduceLT,Int.reduceLE,Int.reduceNeg,Int.reduceAdd,Int.reduceSub,Int.reduceMul,Int.reduceEq,Int.reduceBEq,Int.reduceBNe,f1]); exact rfl):VCalls P g args hp K:=Y4 c (ha a) hf ((h a).mpr q)
def gc(keep:List Nat)(h1:S'.nt=S.nt:=by rfl)(h2:S'.base=S.base:=by rfl)(h3:keep.take S.base=JA S.base:=by rfl)(h4:keep.Nodup:=by decide)(h5:sy keep S.hp keep S'.hp:=by(repeat' apply And.intro)<;>first|trivial|rfl|exact⟨_,rfl,rfl,rfl,.inl ⟨rfl,rfl⟩⟩|exact⟨_,rfl,rfl,rfl,.inl ⟨Qw _ _ _,rfl⟩⟩|exact⟨_,rfl,rfl,rfl,.inl ⟨sK _ _,rfl⟩⟩|exact⟨_,rfl,rfl,rfl,.inr ⟨rfl,rfl⟩⟩)(h6:sx keep S.tm S'.tm:=by(repeat' apply And.intro)<;>first|trivial|rfl|exact⟨_,rfl,rfl,rfl,.inl ⟨rfl,rfl⟩⟩|exact⟨_,rfl,rfl,rfl,.inl ⟨Qw _ _ _,rfl⟩⟩|exact⟨_,rfl,rfl,rfl,.inl ⟨sK _ _,rfl⟩⟩|exact⟨_,rfl,rfl,rfl,.inr ⟨rfl,rfl⟩⟩):gC S S':=xB h1 h2 h3 h4 h5 h6
end Go.V
namespace Go.V
open Go
def QM{α:Type}(f:α->DV)(Q:α->Prop):DV->Qb->Prop:=fun r h'=>h'=[]/\r.nums (fun _=>false)=true/\∃a,r=f a/\Q a
def Qs(c:VCalls P g args [] (QM f Q))(ha:DV.nums.go (fun _=>false) args=true)(h:∀a,Q a->K (f a) hp):VCalls P g args hp K:=
 X4 (R:=fun r=>∃a,r=f a/\Q a) c ha fun r ⟨a,e,q⟩=>e▸h a q
def Mb(c:VCalls P g args0 [] (QM f Q))(ha:Qi (args.map (dp hp))=some args0)(hf:∀a,(f a).flat=true)(h:∀a,Q a->K (f a) hp):VCalls P g args hp K:=
 (VCalls.lendA (R:=fun r=>∃a,r=f a/\Q a) ha (c.mono fun r h' e=>⟨e.1,by obtain⟨_,_,a,rfl,_⟩:=e;exact hf a,e.2.2⟩)).mono fun r h' e=>by obtain⟨rfl,a,rfl,q⟩:=e;exact h a q
def tQ(sel:List Nat)(args1:List DV)(h0:Qb)(c:VCalls P g args0 [] (QM f Q))(hh0:h0=sel.map fun k=>hp.getD k default)(hpl:ko hp sel)(hnd:sel.Nodup)(ha1:args1=args.map (DV.ren fun j=>sel.idxOf j))(ha:DV.nums.go sel.contains args=true)(hf:Qi (args1.map (dp h0))=some args0)(h:∀a,Q a->K (f a) (gx hp sel)):VCalls P g args hp K:=by
 subst hh0;have c1:=VCalls.giveA (R:=fun r=>r.nums (fun _=>false)=true/\∃a,r=f a/\Q a) hf (c.mono fun r h' e=>⟨e.1,e.2.1,e.2⟩);refine(VCalls.frame sel hnd (uh hpl) (ui hpl) c1 ha1 ha).mono ?_;rintro r h2 ⟨r0,h',⟨rfl,hn,a,rfl,q⟩,_,rfl,rfl⟩;rw[EO fun k hk=>(sN hpl k hk).1,iJ _ _ hn];exact h a q
attribute [go_sem] DV.ren DV.ren.go KW List.getD_cons_succ List.getD_cons_zero
def VCalls.S(c:VCalls P g args hp (QM f Q))(h:∀a,Q a->R a):VCalls P g args hp (QM f R):=
 c.mono fun _ _ ⟨h1,h2,a,e,q⟩=>⟨h1,h2,a,e,h a q⟩
def VCalls.toS(c:VCalls P g args hp (Ret d))(a:α)(e:d=f a)(q:Q a):VCalls P g args hp (QM f Q):=
 c.mono fun _ _ ⟨h1,h2,h3⟩=>⟨h1,h2,a,h3.trans e,q⟩
def RelD.own_nil (h:RelD w β hp (.own k sz off 0) v):RelD w β hp (.pv (.sl [])) v:=by
 cases h with
 |own _ _ _ _ cap b C T m h1 h2 h3 h4 h5 h6 =>
   exact .pv _ _ (.sl [] (some ⟨b,off,none⟩) cap 0 (fun _ _=>undef) (JF _) h4 vv (by intro ad e _;cases e;rfl) vv vv)
 |own0 _ _ a h1 h2 h3 =>
   exact .pv _ _ (.sl [] a 0 0 (fun _ _=>undef) (JF _) (JF _) vv (by intro ad e h;omega) vv vv)
def ne1:DV->DV
 |.own _ _ _ 0=>.pv (.sl [])
 |d=>d
def zz(h:0<n):ne1 (.own k sz off n)=.own k sz off n:=by cases n;omega;rfl
theorem zA:ne1 (.own k sz off 0)=.pv (.sl []):=rfl
theorem zB:ne1 (.pv p)=.pv p:=rfl
def RelD.ne1(h:RelD w β hp d v):RelD w β hp (V.ne1 d) v:=by
 unfold V.ne1;split
 ·exact h.own_nil
 ·exact h
def DV.ne:DV->DV
 |.agg cs=>.agg (cs.map ne1)
 |d=>d
def RelD.ne (h:RelD w β hp d v):RelD w β hp d.ne v:=by
 cases h with
 |agg ds vs h1 h2 =>
   refine .agg _ vs (by rw[Je];exact h1) fun i d hd=>?_;rw[Jd] at hd;obtain⟨x,e1,e2⟩:=QF hd;subst e2;exact(h2 i x e1).ne1
 |pv p v h=>exact .pv p v h
 |ptr k off b h hb=>exact .ptr k off b h hb
 |own k sz off len cap b C T m h hb h1 h2 h3 h4=>exact .own k sz off len cap b C T m h hb h1 h2 h3 h4
 |ownc k sz off len cap b o C T m h hb h1 h2 h3 h4 h5=>exact .ownc k sz off len cap b o C T m h hb h1 h2 h3 h4 h5
 |own0 k sz a h1 h2 h3=>exact .own0 k sz a h1 h2 h3
 |ip cs ad val h1 h2 h3=>exact .ip cs ad val h1 h2 h3
 |fn f ds es vs us h1 h2 h3 h4=>exact .fn f ds es vs us h1 h2 h3 h4
 |tup ds vs h1 h2=>exact .tup ds vs h1 h2
 |opt c d v h1 h2=>exact .opt c d v h1 h2
 |any v=>exact .any v
def VCalls.neA(c:VCalls P g (args.map DV.ne) hp R):VCalls P g args hp R:=
 ⟨fun w β vs hh ha=>c.run w β vs hh ⟨by rw [Je]; exact ha.1,fun i d hd=>by
  rw[Jd] at hd;obtain⟨x,h1,h2⟩:=QF hd;subst h2
  exact(ha.2 i x h1).ne⟩⟩
def nf(h:b=true):¬b=false:=by simp[h]
def nt(h:b=false):¬b=true:=by simp[h]
def ba{α:Type}{n m:Nat}{a b:Option α}(h:n<=m):(if n<=m then a else b)=a:=if_pos h
end Go.V
namespace Go.V
open Go
def xp(P:Program)(rs:List ResultVar)(R:DV->Qb->Prop)(e:Exit)(S:St):Prop:=∃S',SimLe S S'/\gB P rs R e S'
def VWp.postG(h:VWp P c (xp P rs R) S):VWp P c (gB P rs R) S:=fun O β a w hs=>
 wp_mono (h O β a w hs) fun _ _ _ ⟨_,_,hs',S',hw,hq⟩=>let ⟨β2,h2⟩:=hw _ _ _ _ hs';⟨β2,S',h2,hq⟩
def QI(S':St)(hw:gC S S')(h:gB P rs R e S'):xp P rs R e S:=⟨S',.weak hw,h⟩
def Zo(hf:P.funcs[g]?=some fn)(hb:fn.body=some c)(hname:(fn.name == "runtime.NumGoroutine")=false)(hn:args.length<=fn.ntmps)(hc:VWp P c (gB P fn.results.toList R) ⟨fn.ntmps,h.length,bj 0 args,h⟩):VCalls P g args h R:=by
 refine wD hf hb hname hn (fun e S hq=>?_) hc;unfold gB at hq;grind
def QT(hf:P.funcs[g]?=some fn)(hb:fn.body=some c)(hname:(fn.name == "runtime.NumGoroutine")=false)(hn:args.length<=fn.ntmps)(hc:QH P c (xp P fn.results.toList R) ⟨fn.ntmps,h.length,bj 0 args,h⟩):VCalls P g args h R:=
 Zo hf hb hname hn (Qx c _ _ hc).postG
def Mz(ha:a<hp.length)(hb:b<hp.length)(hc:c<hp.length)(ab:a≠b)(ac:a≠c)(bc:b≠c)(A B C:Blk)(r:Qb):
 Q6 hp [a,b,c] (A::B::C::r)=((hp.set a (aG (back [a,b,c] hp.length) A)).set b (aG (back [a,b,c] hp.length) B)).set c (aG (back [a,b,c] hp.length) C)++r.map (aG (back [a,b,c] hp.length)):=by
 unfold Q6;congr 1;apply Ke
 grind
end Go.V
namespace Go.V
open Go
end Go.V
namespace Go.V
abbrev wd(r:Option Nat):Fence:={ Fence.wide with round:=r }
def ES(h:Qo ev o=some (g,args)):∀c,o≠.defer c:=by
 rintro c rfl;simp[Qo] at h
def xq(h:vop P ev hp o=some r):∀c,o≠.defer c:=by
 rintro c rfl;simp[vop] at h
def ET {rd:Option Nat} {n:Nat} {hp:Qb} {ev:Operand->DV} {a:Act} {o:Oper} (hev:∀x,RelD w β hp (ev x) (a.eval x)) {g:FuncId} {args:List DV} (hc:Qo ev o.op = some (g,args)) {R:DV->Qb->Prop} (hh:HeapRel w β hp) (hcalls:VCalls P g args hp R) {next:Act->World->Prop} {Q:Exit->Act->World->Prop} (hn:∀v r h' β' w',Evo w β hp w' β' h'->HeapRel w' β' h'->RelD w' β' h' r v->R r h'->next (a.put o.dst v) w'):o.wpIn (wd rd) n P a w next Q:=by
 have hnd:=ES hc;unfold Qo at hc;split at hc
 ·rename_i c hop;split at hc
  ·rename_i f hcal;split at hc
   ·rename_i g' first cap hfn
    simp at hc;obtain⟨rfl,rfl⟩:=hc;have hf:=hev f;rw[hfn] at hf;generalize hv:a.eval f=fv at hf;cases hf with
    |fn _ _ _ vs us l1 l2 r1 r2 =>
      have hrel:RelL w β hp (first++c.args.toList.map ev++cap) (vs++c.args.map a.eval++us):=mR (mR ⟨l1,r1⟩ (oY hev c.args)) ⟨l2,r2⟩;rcases hcalls.run w β (vs++c.args.map a.eval++us) hh (by simpa using hrel) with⟨fn,h1,h2,h3,h4⟩|⟨fn,v,w',h1,h2,h3,v',r,h',β',e,k1,k2,k3,k4⟩
      ·have hrun:(execOp a.eval o).run P w = .ok (.enter g' (vs ++ c.args.map a.eval ++ us)) w:=by
        simp[execOp,hop,resolve,hcal,hv,Deferred.ofValue,invoke,wm h1 h2 h3]
       refine⟨fun _ _=>trivial,?_⟩;rw[Oper.semAt_plain _ _ _ hnd,hrun,Oper.uponIn_enter];refine⟨fun h=>by simp[Fence.wide] at h,CallsIn.mono (F:=wd rd) (callsIn_wide.2 h4) ?_⟩;rintro e w' ⟨v,r,h',β',rfl,k1,k2,k3,k4⟩;exact hn v r h' β' w' k1 k2 k3 k4
      ·have hrun:(execOp a.eval o).run P w = .ok (.value v) w':=by
        rw[Array.append_assoc] at h3;simp[execOp,hop,resolve,hcal,hv,Deferred.ofValue,invoke,h3]
       cases e;refine⟨fun _ _=>trivial,?_⟩;rw[Oper.semAt_plain _ _ _ hnd,hrun];exact hn v r h' β' w' k1 k2 k3 k4
   ·simp at hc
  ·simp at hc
 ·simp at hc
def xr{rd:Option Nat}{n:Nat}{hp hp':Qb}{o:Oper}{d:DV}(hnd:∀c,o.op≠.defer c)(h:iU P w β hp (execOp a.eval o) d hp'){next:Act->World->Prop}{Q:Exit->Act->World->Prop}(hn:∀v w' β',Evo w β hp w' β' hp'->HeapRel w' β' hp'->RelD w' β' hp' d v->next (a.put o.dst v) w'):o.wpIn (wd rd) n P a w next Q:=by
 obtain⟨v,w',β',h1,h2,h3,h4⟩:=h;refine⟨fun _ _=>trivial,?_⟩;rw[Oper.semAt_plain _ _ _ hnd];rcases h1 with h1|⟨h1,rfl⟩
 ·rw[h1];exact hn v w' β' h2 h3 h4
 ·rw[h1];exact hn undef w' β' h2 h3 h4
def sU {rd:Option Nat} {n:Nat} {ops:Array Oper} {Q:Exit->Act->World->Prop} {K:St->Prop} {tail:List Nat} {T:Act->Prop} (hT:∀o ∈ ops.toList,∀(a:Act) (v:Value),T a->T (a.put o.dst v)) (hK:∀β S a w,Sim O β S a w->T a->K S->wpOpsIn (wd rd) n P ops Q tail a w):∀(rest:List Oper) (pre post:List Oper),ops.toList = pre ++ rest ++ post->∀(β:Map) (S:St) (a:Act) (w:World),Sim O β S a w->T a->an P ops.toList rest K S ->
 wpOpsIn (wd rd) n P ops Q (J0 pre.length rest.length++tail) a w
 |[],pre,post,_,β,S,a,w,hs,ht,h=>by
   simp only[Jg,Uf,KT];exact hK β S a w hs ht h
 |o :: r,pre,post,hops,β,S,a,w,hs,ht,h=>by
   have hT0:=hT o (by rw[hops];simp)
   have hidx:ops[pre.length]?=some o:=by
    have:ops.toList[pre.length]?=some o:=by rw[hops];simp
    simpa using this
   have ih:=fun β S a w=>sU (P:=P) (rd:=rd) (n:=n) (O:=O) hT hK r (pre++[o]) post (by rw[hops];simp) β S a w;simp only[Ji,List.length_singleton] at ih;simp only[Jc,Ug,Kh,wpOpsIn,hidx];unfold an at h;obtain⟨hf,h⟩:=h;split at h
   ·exact h.elim
   ·rename_i hg;rw[QS (ops:=ops) hs hg,if_neg vv];exact⟨fun _ _=>trivial,ih β _ _ _ (hs.skip (.tup [] #[] rfl vv) hf) (hT0 a _ ht) h⟩
   ·rename_i hg;rw[QS (ops:=ops) hs hg,if_pos rfl];have hev:∀x,RelD w β S.hp (Qn true (S.ev x)) (a.eval x):=fun x=>gy (hs.ev x) rfl;split at h
    ·rename_i g args hc;refine ET hev hc hs.heap h (fun v r h' β' w' k1 k2 k3 k4=>?_);exact ih β' _ _ _ (hs.step k1 k2 (QU k3) hf) (hT0 a _ ht) k4
    ·split at h
     ·rename_i d hp' hv;refine xr (xq hv) (iV hs.heap hev (fun _=>rfl) hv) (fun v w' β' k1 k2 k3=>?_);exact ih β' _ _ _ (hs.step k1 k2 (QU k3) hf) (hT0 a _ ht) h
     ·exact h.elim
def EU{rd:Option Nat}{n:Nat}{ops:Array Oper}{Q:Exit->Act->World->Prop}{K:St->Prop}(hK:∀β S a w,Sim O β S a w->K S->Q .normal a w)(β:Map)(S:St)(a:Act)(w:World)(hs:Sim O β S a w)(h:an P ops.toList ops.toList K S):
 wpOpsIn (wd rd) n P ops Q (JA ops.size) a w:=by
 have:=sU (P:=P) (rd:=rd) (n:=n) (O:=O) (ops:=ops) (Q:=Q) (K:=K) (tail:=[]) (T:=fun _=>True) (fun _ _ _ _ _=>trivial) (fun β S a w hs _ hk=>hK β S a w hs hk) ops.toList [] [] vv β S a w hs trivial h;simpa [Kg] using this
def dO:Code->Bool
 |.skip|.exit _|.ret=>true
 |.region _ _ d=>!d
 |.seq a b|.cond _ a b=>dO a&&dO b
 |.block _ c=>dO c
 |_=>false
def nh {rd:Option Nat} {n:Nat}:∀(c:Code) (Q:Exit->St->Prop) (S:St),dO c = true->QH P c Q S->∀(O:Org) (β:Map) (a:Act) (w:World),Sim O β S a w->c.wpIn (wd rd) n P (du O Q) a w
 |.skip,Q,S,_,h=>fun O β a w hs=>wpIn_skip ⟨β,S,hs,h⟩
 |.region id ops draw,Q,S,hp,h=>fun O β a w hs=>by
   unfold QH at h;have hd:draw=false:=by simpa [dO] using hp
   subst hd;simp only[Kc,if_false] at h;have:=EU (P:=P) (rd:=rd) (n:=n) (O:=O) (ops:=ops) (Q:=du O Q) (K:=Q .normal) (fun β S a w hs hk=>⟨β,S,hs,hk⟩) β S a w hs h;exact wpIn_region this
 |.seq x y,Q,S,hp,h=>fun O β a w hs=>by
   unfold QH at h;simp only[dO,Jp] at hp;have h1:=nh (rd:=rd) (n:=n) x _ S hp.1 h O β a w hs;refine wpIn_seq (wpIn_mono h1 fun e a' w' hq=>?_);obtain⟨β',S',hs',hq⟩:=hq;cases e with
   |normal=>exact nh y Q S' hp.2 hq O β' a' w' hs'
   |_=>exact⟨β',S',hs',hq⟩
 |.cond c x y,Q,S,hp,h=>fun O β a w hs=>by
   unfold QH at h;simp only[dO,Jp] at hp;split at h
   ·rename_i t ht;have hc:=hs.ev c;rw[ht] at hc;refine wpIn_cond_split (Qk hc) (fun e=>?_) (fun e=>?_)
    ·exact nh x Q S hp.1 (h.1 e) O β a w hs
    ·exact nh y Q S hp.2 (h.2 e) O β a w hs
   ·exact h.elim
 |.block id c,Q,S,hp,h=>fun O β a w hs=>by
   unfold QH at h;have h1:=nh (rd:=rd) (n:=n) c _ S (by simpa [dO] using hp) h O β a w hs;refine wpIn_block (wpIn_mono h1 fun e a' w' hq=>?_);obtain⟨β',S',hs',hq⟩:=hq;cases e with
   |exit id' =>
     simp only[eE] at hq;simp only[Exit.inBlock];split
     ·rename_i he;rw[if_pos he] at hq;exact⟨β',S',hs',hq⟩
     ·rename_i he;rw[if_neg he] at hq;exact⟨β',S',hs',hq⟩
   |_=>exact⟨β',S',hs',hq⟩
 |.exit id,Q,S,_,h=>fun O β a w hs=>wpIn_exit ⟨β,S,hs,h⟩
 |.ret,Q,S,_,h=>fun O β a w hs=>wpIn_ret ⟨β,S,hs,h⟩
 |.loop _,_,_,hp,_=>by simp[dO] at hp
 |.rangeFunc ..,_,_,hp,_=>by simp[dO] at hp
 |.scope _,_,_,hp,_=>by simp[dO] at hp
 |.label _,_,_,hp,_=>by simp[dO] at hp
 |.goto _,_,_,hp,_=>by simp[dO] at hp
 |.refuse _,_,_,hp,_=>by simp[dO] at hp
end Go.V
namespace Go.V
section
variable {P:Program} {ops:Array Oper} {T:Nat->St} {F:Nat->List Nat×Bool} {rd:Option Nat} {n:Nat}
theorem Zp (h:Steps P ops T F) (hK:∀β a w,Sim O β (T ops.size) a w->Q .normal a w):∀(fuel:Nat) (listed:Array Bool) (a:Act) (w:World) (β:Map) (S:St),
 (JA ops.size).countP (fun i=>!listed.getD i false)<=fuel->Sim O β S a w->Inv O ops T F listed S->wpAnyIn (wd rd) n P .any ops Q fuel listed a w:=by
 have done : ∀(listed:Array Bool) (a:Act) (w:World) (β:Map) (S:St),Region.ready .any ops listed = []->Sim O β S a w->Inv O ops T F listed S->Q .normal a w:=by
  intro listed a w β S hready hs hi
  have all:∀i,i < ops.size->listed.getD i false = true:=by
   intro i;induction i using KA with
   |_ i ih =>
     intro hlt;cases hl:listed.getD i false with
     |true=>rfl
     |false =>
       have ho:ops[i]?=some ops[i]:=JE hlt
       have hmem:i∈Region.ready .any ops listed:=by
        rw[mem_ready];refine⟨?_,ops[i],ho,fun e he hb=>ih e.on ((mT h.ok ho).1 e he hb) (KX ((mT h.ok ho).1 e he hb) hlt)⟩;have hsz:i<listed.size:=by rw[hi.size];exact hlt
        simpa [hsz] using hl
       rw[hready] at hmem;cases hmem
  obtain⟨f1,f2,f3⟩:=o9 h ops.size (Jo _);have lt_of:∀i t,wT ops i t->i<ops.size:=fun i t ⟨o,ho,_⟩=>(Jf.1 ho).1;refine hK β a w (D4 (S:=S) (hi.nt.trans f1.symm) (hi.base.trans f2.symm) ?_ hs (fun t=>?_))
  ·apply Ke
   intro k;obtain⟨m,hm,e,_,h2⟩:=hi.hp k;rw[e];exact(o8 h ops.size hm (Jo _) (fun i h3 h4 hw=>by have:=h2 i h3 h4 hw;rw[all i h4] at this;cases this)).symm
  ·obtain ⟨m,hm,e,_,h2⟩:=hi.tm t;rw[e];exact(o7 h ops.size hm (Jo _) (fun i h3 h4 hw=>by have:=h2 i h3 hw;rw[all i h4] at this;cases this)).symm
 intro fuel;induction fuel with
 |zero =>
   intro listed a w β S hc hs hi
   have hready:Region.ready .any ops listed=[]:=by
    apply J8.2
    intro j hj;obtain⟨h0,o,ho,_⟩:=mem_ready.1 hj;have hlt:j<ops.size:=(Jf.1 ho).1
    have:0<(JA ops.size).countP (fun i=>!listed.getD i false):=by
     rw[List.countP_pos_iff];refine⟨j,JS.2 hlt,?_⟩;have hsz:j<listed.size:=by rw[hi.size];exact hlt
     simp[hsz] at h0 |-;exact h0
    omega
   exact⟨hready,done listed a w β S hready hs hi⟩
 |succ fuel ih =>
   intro listed a w β S hc hs hi;refine⟨fun hready=>done listed a w β S hready hs hi,fun j hj=>?_⟩;obtain⟨h0,oj,hoj,hr⟩:=mem_ready.1 hj;have hlt:j<ops.size:=(Jf.1 hoj).1;have hsz:j<listed.size:=by rw[hi.size];exact hlt
   have hun:listed.getD j false=false:=by simp[hsz] at h0 |-;exact h0
   obtain⟨o',ho',hstep,_⟩:=h.step j hlt;rw[hoj] at ho';simp at ho';subst ho';have htm:∀t∈oj.looksAt ops,V.look S.tm t=V.look (T j).tm t:=fun t ht=>(wK h hi hoj hun hr (.inl ht)).1;have heff:=o6 hstep;obtain⟨hf,G,hg,hcase⟩:=hstep;obtain⟨f1,f2,f3⟩:=o9 h j vz
   have hf':S.fits oj.dst=true:=by
    unfold St.fits at hf |-;rw[hi.nt,<-f1];exact hf
   have hg':QJ ops.toList S oj=some G:=by rw[jN htm];exact hg
   have hw:=QS (ops:=ops) hs hg';have hevS:∀x∈oj.op.operands.toList,Qn G (S.ev x)=Qn G ((T j).ev x):=fun x hx=>by rw[ie htm x hx]
   have hev:G=true->∀x,RelD w β S.hp (Qn G (S.ev x)) (a.eval x):=fun hG x=>gy (hs.ev x) hG
   have hcnt:(JA ops.size).countP (fun i=>!(listed.setIfInBounds j true).getD i false)<=fuel:=by
    have:(JA ops.size).countP (fun i=>!(listed.setIfInBounds j true).getD i false)<(JA ops.size).countP (fun i=>!listed.getD i false):=by
     refine sf (JS.2 hlt) (by rw[hun];rfl) (by simp[hsz]) (fun i hp=>?_);by_cases hij:i=j
     ·rw[hij,hun];rfl
     ·rw[getD_set_ne false (Ne.symm hij)] at hp;exact hp
    omega
   unfold wpOpIn;simp only[hoj,hw]
   -- what stands Q6 this operation
   have next:∀(β1:Map) (a1:Act) (w1:World) (S1:St),Sim O β1 S1 a1 w1->S1.nt=S.nt->S1.base=S.base->S1.hp.length=S.hp.length->(∀t,oj.dst≠some t->V.look S1.tm t=V.look S.tm t)->(∀t,oj.dst=some t->V.look S1.tm t=V.look (T (j+1)).tm t) ->
    (∀k,¬wB F j k->S1.hp[k]?=S.hp[k]?)->(∀k,wB F j k->S1.hp[k]?=(T (j+1)).hp[k]?)->wpAnyIn (wd rd) n P .any ops Q fuel (listed.setIfInBounds j true) a1 w1:=
    fun β1 a1 w1 S1 k0 k1 k2 k3 k4 k5 k6 k7=>ih _ a1 w1 β1 S1 hcnt k0 (rL h hi hoj hun hr k1 k2 k3 k4 k5 k6 k7)
   have putlook:∀(S0:St) (d:DV) t,oj.dst=some t->V.look (S0.put oj.dst d).tm t=d:=fun S0 d t ht=>by rw[ht];simp[St.put,V.look]
   rcases hcase with⟨g,args,d,hc,hcalls,ha,hd,hT,hF⟩|⟨d,hp',hc,hv,hk,hT,hF⟩|⟨rfl,hT,hF⟩
   ·have nb:∀k,¬wB F j k:=fun k hk=>by have:=hk.1;rw [hF] at this;cases this
    have fin:∀(β1:Map) (a1:Act) (w1:World),Sim O β1 (S.put oj.dst (aw oj.guard G d)) a1 w1->wpAnyIn (wd rd) n P .any ops Q fuel (listed.setIfInBounds j true) a1 w1:=fun β1 a1 w1 k0=>
     next β1 a1 w1 _ k0 (St.put_nt ..) (St.put_base ..) (by rw[St.put_hp]) (fun t ht=>St.put_look _ _ _ t ht) (fun t ht=>by rw[hT,putlook _ _ t ht,putlook _ _ t ht]) (fun k _=>by rw[St.put_hp]) (fun k hk=>absurd hk (nb k))
    cases hG:G with
    |true =>
      subst hG;rw[if_pos rfl];have hc':Qo (fun x=>Qn true (S.ev x)) oj.op=some (g,args):=by rw[wL hevS];exact hc
      refine(ET (hev rfl) hc' hs.heap ((VCalls.pure ((hcalls rfl).mono fun r h' ⟨e1,e2⟩=>⟨e1,by rw[e2];exact hd,e2⟩) ha).mono fun r h' hh=>hh) (fun v r h' β' w' k1 k2 k3 k4=>?_));obtain⟨rfl,rfl⟩:=k4;refine fin β' _ _ (hs.step k1 k2 (d:=aw oj.guard true r) ?_ hf');cases oj.guard with
      |none=>exact k3
      |some _=>exact .opt true r v (fun _=>k3) vv
    |false =>
      subst hG;rw[if_neg vv];refine⟨fun _ _=>trivial,?_⟩;refine fin β _ _ (hs.skip (d:=aw oj.guard false d) ?_ hf');cases hgd:oj.guard with
      |none=>simp[QJ,hgd] at hg
      |some _=>exact .opt false d undef vv (fun _=>rfl)
   ·have hfoot:∀k ∈ (ax (fun x=>Qn G ((T j).ev x)) oj.op).1,S.hp[k]? = (T j).hp[k]?:=fun k hk'=>by
     rw[<-hF] at hk';exact(pa h hi hoj hun hr hk').1
    have hcong:vop P (fun x=>Qn G (S.ev x)) S.hp oj.op=vop P (fun x=>Qn G ((T j).ev x)) S.hp oj.op:=wJ hk hevS;cases hG:G with
    |true =>
      subst hG;rw[if_pos rfl];simp only[cond_true] at hT
      have hdr:∀{β':Map} {h':Qb} {w':World} {v:Value},RelD w' β' h' d v->RelD w' β' h' (aw oj.guard true d) v:=fun {β' h' w' v} k3=>by
       cases oj.guard with
       |none=>exact k3
       |some _=>exact .opt true d v (fun _=>k3) vv
      rcases o0 (hp':=S.hp) hk hfoot hv with⟨w0,e1,e2⟩|⟨w1,k0,cs,e0,e1,e2⟩
      ·rw [<-hcong] at e2;subst e1;have nb:∀k,¬wB F j k:=fun k hk=>by have:=hk.1;rw[hF,w0] at this;cases this
       refine(xr (xq e2) (iV hs.heap (hev rfl) (fun _=>rfl) e2) (fun v w' β' k1 k2 k3=>?_))
       exact next β' _ _ _ (hs.step k1 k2 (hdr k3) hf') (St.put_nt ..) (St.put_base ..) (by rw[St.put_hp]) (fun t ht=>St.put_look _ _ _ t ht) (fun t ht=>by rw[hT,putlook _ _ t ht,putlook _ _ t ht])
        (fun k _=>by rw[St.put_hp]) (fun k hk=>absurd hk (nb k))
      ·rw [<-hcong] at e2;subst e1;refine(xr (xq e2) (iV hs.heap (hev rfl) (fun _=>rfl) e2) (fun v w' β' k1 k2 k3=>?_));have hwk:∀k,wB F j k ↔ k=k0:=fun k=>by unfold wB;rw[hF,w1,e0];simp
       refine next β' _ _ _ (hs.step k1 k2 (hdr k3) hf') (St.put_nt ..) (St.put_base ..) (by rw[St.put_hp];show(Qm S.hp k0 cs).length=_;unfold Qm;split<;>simp) (fun t ht=>St.put_look _ _ _ t ht) (fun t ht=>by rw[hT,putlook _ _ t ht,putlook _ _ t ht]) (fun k hk=>?_) (fun k hk=>?_)
       ·rw [St.put_hp];show(Qm S.hp k0 cs)[k]?=_
        have hne:k0≠k:=fun he=>hk ((hwk k).2 he.symm);unfold Qm;split
        ·rw[J1 hne]
        ·rfl
       ·rw [(hwk k).1 hk,hT,St.put_hp,St.put_hp];show(Qm S.hp k0 cs)[k0]?=(Qm (T j).hp k0 cs)[k0]?
        have hsame:S.hp[k0]?=(T j).hp[k0]?:=hfoot k0 (by rw[e0];simp);unfold Qm;rw[hsame];cases hB:(T j).hp[k0]? with
        |none=>simp only;rw[hsame]
        |some B =>
          have l1:k0<(T j).hp.length:=(Jb.1 hB).1;have l2:k0<S.hp.length:=(Jb.1 (hsame.trans hB)).1;simp only
          rw[Kb l1,Kb l2]
    |false =>
      subst hG;rw[if_neg vv];refine⟨fun _ _=>trivial,?_⟩;simp only[cond_false] at hT;refine next β _ _ (S.put oj.dst (aw oj.guard false d)) (hs.skip (d:=aw oj.guard false d) ?_ hf') (St.put_nt ..) (St.put_base ..) (by rw[St.put_hp]) (fun t ht=>St.put_look _ _ _ t ht) (fun t ht=>by rw[hT,putlook _ _ t ht,putlook _ _ t ht]) (fun k _=>by rw[St.put_hp]) (fun k hk=>?_)
      ·cases hgd:oj.guard with
       |none=>simp[QJ,hgd] at hg
       |some _=>exact .opt false d undef vv (fun _=>rfl)
      ·rw [hT,St.put_hp,St.put_hp];exact(pa h hi hoj hun hr hk.2).1
   ·have nb:∀k,¬wB F j k:=fun k hk=>by have:=hk.1;rw [hF] at this;cases this
    rw[if_neg vv];refine⟨fun _ _=>trivial,?_⟩;exact next β _ _ _ (hs.skip (.tup [] #[] rfl vv) hf') (St.put_nt ..) (St.put_base ..) (by rw[St.put_hp]) (fun t ht=>St.put_look _ _ _ t ht) (fun t ht=>by rw[hT,putlook _ _ t ht,putlook _ _ t ht]) (fun k _=>by rw[St.put_hp]) (fun k hk=>absurd hk (nb k))
end
def Zq {rd:Option Nat} {n:Nat} {id:Nat} {ops:Array Oper} {Q:Exit->St->Prop} (hm:P.follows .mixedOrders = true) (hB:iW ops = true) (h:vdr P ops.toList ops.toList [] (Q .normal) S):∀(O:Org) (β:Map) (a:Act) (w:World),Sim O β S a w->(Code.region id ops true).wpIn (wd rd) n P (du O Q) a w:=by
 intro O β a w hs;obtain⟨T,F,_,h2,h3,h4⟩:=o5 ops.toList [] [] S rfl rfl h;simp only[Jg] at h2
 have hsteps:Steps P ops T F:=⟨fun j hj=>by
  obtain⟨o,e1,e2,e3⟩:=h4 j (JF _) (by simpa using hj)
  exact⟨o,by simpa using e1,e2,e3⟩,hB⟩
 have hs':Sim O β (T 0) a { w with drawn:=w.drawn+1 }:=by
  rw[h2];have e:Evo w β S.hp w.drew β S.hp:=ia w β S.hp;exact⟨hs.defers,hs.size,fun t=>(hs.tm t).mono e,hs.heap.drew,hs.evo.trans e,hs.base⟩
 refine wpIn_region_any hm (Zp (O:=O) (Q:=du O Q) hsteps (fun β a w hk=>⟨β,_,hk,by simpa using h3⟩) ops.size (Jq ops.size false) a _ β (T 0) ?_ hs' ?_)
 ·have:=Ko (p:=fun i=>!(Jq ops.size false).getD i false) (l:=JA ops.size);simpa using this
 ·have hfalse:∀i,(Jq ops.size false).getD i false = false:=fun i=>by
   by_cases hi:i<ops.size
   ·simp[hi]
   ·simp[hi]
  refine⟨vv,rfl,rfl,rfl,fun i o _ hl=>?_,fun t=>⟨0,JF _,rfl,fun i hi=>absurd hi (Kj _),fun i _ _=>hfalse i⟩,fun k=>⟨0,JF _,rfl,fun i hi=>absurd hi (Kj _),fun i _ _ _=>hfalse i⟩⟩;rw[hfalse] at hl;cases hl
inductive CutD (K:Nat) (ops0:Array Oper):Code->Code->Prop
 |skip:CutD K ops0 .skip .skip
 |exit (id:Nat) (h:(id==K)=false):CutD K ops0 (.exit id) (.exit id)
 |ret:CutD K ops0 .ret .ret
 |region (id:Nat) (ops:Array Oper):CutD K ops0 (.region id ops false) (.region id ops false)
 |draw (id:Nat):CutD K ops0 (.seq (.region id ops0 true) .ret) (.exit K)
 |seq {a a' b b':Code} (h:CutD K ops0 a a') (h':CutD K ops0 b b'):CutD K ops0 (.seq a b) (.seq a' b')
 |cond (c:Operand) {a a' b b':Code} (h:CutD K ops0 a a') (h':CutD K ops0 b b'):CutD K ops0 (.cond c a b) (.cond c a' b')
 |block (id:Nat) (hid:(id==K)=false) {a a':Code} (h:CutD K ops0 a a'):CutD K ops0 (.block id a) (.block id a')
def Zs {rd:Option Nat} {n K:Nat} {ops0:Array Oper} (hm:P.follows .mixedOrders = true) (hB:iW ops0 = true) {c c':Code} (hc:CutD K ops0 c c'):∀(Q' Q:Exit->St->Prop),(∀S,Q' (.exit K) S->vdr P ops0.toList ops0.toList [] (Q .ret) S)->(∀e S,e ≠ .exit K->Q' e S->Q e S) ->
 ∀(S:St),QH P c' Q' S->∀(O:Org) (β:Map) (a:Act) (w:World),Sim O β S a w->c.wpIn (wd rd) n P (du O Q) a w:=by
 induction hc with
 |skip=>intro Q' Q hK hQ S h O β a w hs;exact wpIn_skip ⟨β,S,hs,hQ _ _ vv h⟩
 |exit id hid=>intro Q' Q hK hQ S h O β a w hs;exact wpIn_exit ⟨β,S,hs,hQ _ _ (by simpa using hid) h⟩
 |ret=>intro Q' Q hK hQ S h O β a w hs;exact wpIn_ret ⟨β,S,hs,hQ _ _ vv h⟩
 |region id ops =>
   intro Q' Q hK hQ S h O β a w hs;unfold QH at h;simp only[Kc,if_false] at h;exact wpIn_region (EU (P:=P) (rd:=rd) (n:=n) (O:=O) (ops:=ops) (Q:=du O Q) (K:=Q' .normal) (fun β S a w hs hk=>⟨β,S,hs,hQ _ _ vv hk⟩) β S a w hs h)
 |draw id =>
   intro Q' Q hK hQ S h O β a w hs;refine wpIn_seq (wpIn_mono (Zq (Q:=fun e S=>e=.normal/\Q .ret S) hm hB ?_ O β a w hs) ?_)
   ·have:=hK S h;have e:(fun S=>Exit.normal=Exit.normal/\Q Exit.ret S)=Q .ret:=by funext S;simp
    rw[e];exact this
   ·rintro e a' w' ⟨β',S',hs',rfl,q⟩;exact wpIn_ret ⟨β',S',hs',q⟩
 |seq h h' ih ih' =>
   rename_i x x' y y';intro Q' Q hK hQ S hv O β a w hs;unfold QH at hv;refine wpIn_seq (wpIn_mono (ih (fe Q' (QH P y' Q')) (fe Q (QH P y' Q')) hK (fun e S he hq=>?_) S hv O β a w hs) fun e a' w' hq=>?_)
   ·cases e with
    |normal=>exact hq
    |_=>exact hQ _ _ he hq
   ·obtain ⟨β',S',hs',hq⟩:=hq;cases e with
    |normal=>exact ih' Q' Q hK hQ S' hq O β' a' w' hs'
    |_=>exact⟨β',S',hs',hq⟩
 |cond c h h' ih ih' =>
   intro Q' Q hK hQ S hv O β a w hs;unfold QH at hv;split at hv
   ·rename_i t ht;have hc:=hs.ev c;rw[ht] at hc;refine wpIn_cond_split (Qk hc) (fun e=>?_) (fun e=>?_)
    ·exact ih Q' Q hK hQ S (hv.1 e) O β a w hs
    ·exact ih' Q' Q hK hQ S (hv.2 e) O β a w hs
   ·exact hv.elim
 |block id hid h ih =>
   intro Q' Q hK hQ S hv O β a w hs;unfold QH at hv;have hne:K≠id:=fun e=>by subst e;simp at hid
   refine wpIn_block (wpIn_mono (ih (eE id Q') (eE id Q) (fun S hq=>?_) (fun e S he hq=>?_) S hv O β a w hs) fun e a' w' hq=>?_)
   ·simp only [eE,if_neg hne] at hq;exact hK S hq
   ·cases e with
    |exit id' =>
      simp only[eE] at hq |-;split
      ·rename_i he';rw[if_pos he'] at hq;exact hQ _ _ vv hq
      ·rename_i he';rw[if_neg he'] at hq;exact hQ _ _ he hq
    |_=>exact hQ _ _ vv hq
   ·obtain ⟨β',S',hs',hq⟩:=hq;cases e with
    |exit id' =>
      simp only[eE] at hq;simp only[Exit.inBlock];split
      ·rename_i he;rw[if_pos he] at hq;exact⟨β',S',hs',hq⟩
      ·rename_i he;rw[if_neg he] at hq;exact⟨β',S',hs',hq⟩
    |_=>exact⟨β',S',hs',hq⟩
end Go.V
namespace Go.V
open Go.RowKit (Below)
structure Up(w w':World):Prop where
 size:w.heap.size<=w'.heap.size
 same:∀(b:Nat) (C:Array Value) (T:TypeId) (m:Nat×Nat),w.heap[b]?=some (.cells C T m)->w'.heap[b]?=some (.cells C T m)
def Up.cell(u:Up w w')(h:w.cell? a=some v):w'.cell? a=some v:=by
 obtain⟨o,ho,hc⟩:=cells_of_cell h;cases o with
 |cells C T m=>exact(World.cell?_of_block (by rw[u.same _ _ _ _ ho,ho])).trans h
 |_=>simp[Obj.isCells] at hc
def RelP.up (h:RelP w im p v) (u:Up w w'):RelP w' im p v:=by
 induction h with
 |lit v h=>exact .lit v h
 |str l=>exact .str l
 |sl xs a cap sz val h1 h2 h3 h4 h5 _ ih =>
   refine .sl xs a cap sz val h1 h2 h3 h4 (fun i j c d hc hd=>?_) (fun i j c d hc hd=>ih i j c d hc hd);obtain⟨ad,e,hb,hn,hcell⟩:=h5 i j c d hc hd;exact⟨ad,e,Jj hb u.size,hn,u.cell hcell⟩
 |slc xs a sz val h2 h3 h4 h5 _ ih =>
   refine .slc xs a sz val h2 h3 h4 (fun i j c d hc hd=>?_) (fun i j c d hc hd=>ih i j c d hc hd);obtain⟨ad,e,hb,hn,hcell⟩:=h5 i j c d hc hd;exact⟨ad,e,Jj hb u.size,hn,u.cell hcell⟩
def RelD.up (h:RelD w β hp d v) (u:Up w w'):RelD w' β hp d v:=by
 induction h with
 |pv p v h=>exact .pv p v (h.up u)
 |ptr k off b h hb=>exact .ptr k off b h hb
 |own k sz off len cap b C T m h hb h1 h2 h3 h4=>exact .own k sz off len cap b C T m h hb h1 h2 (u.same _ _ _ _ h3) h4
 |ownc k sz off len cap b o C T m h hb h1 h2 h3 h4 h5=>exact .ownc k sz off len cap b o C T m h hb h1 h2 (u.same _ _ _ _ h3) h4 h5
 |own0 k sz a h hb ha=>exact .own0 k sz a h hb ha
 |ip cs ad val h1 h2 h3 =>
   exact .ip cs ad val h1 (fun j d hd=>⟨Jj (h2 j d hd).1 u.size,(h2 j d hd).2.1,u.cell (h2 j d hd).2.2⟩) (fun j d hd=>(h3 j d hd).up u)
 |agg ds vs h _ ih=>exact .agg ds vs h ih
 |fn f ds es vs us h h' _ _ ih ih'=>exact .fn f ds es vs us h h' ih ih'
 |tup ds vs h _ ih=>exact .tup ds vs h ih
 |opt c d v _ hf ih=>exact .opt c d v ih hf
 |any v=>exact .any v
def HeapRel.up(h:HeapRel w β hp)(u:Up w w'):HeapRel w' β hp:=by
 refine⟨fun k B b hk hl hb=>?_,h.none,h.inj,h.avoid,fun b hb=>Jj (h.bound b hb) u.size⟩;obtain⟨C,c1,c2,c3⟩:=h.blk k B b hk hl hb;exact⟨C,u.same _ _ _ _ c1,c2,fun i d hd=>⟨(c3 i d hd).1,(c3 i d hd).2.up u⟩⟩
def Up.grown(hg:w.grownBy w' row)(hr:∀r,row=some r->∃o:Obj,w.heap[r]?=some o/\o.isCells=false):Up w w':=by
 refine⟨hg.size,fun b C T m hb=>?_⟩;rw[grownBy_keeps_cells hg hr hb rfl];exact hb
def Evo.grown(e:Evo w β hp W β' hp')(hg:W.grownBy W' row)(hr:∀r,row=some r->w.heap.size<=r/\∃o:Obj,W.heap[r]?=some o/\o.isCells=false):Evo w β hp W' β' hp':=by
 have u:=Up.grown hg (fun r h=>(hr r h).2);refine⟨hg.os.trans e.os,hg.tape.trans e.tape,hg.output.trans e.output,KY e.size hg.size,e.len,e.beta,fun b hb hl=>?_,fun b C T m hb=>?_,e.im,e.X⟩
 ·rw [hg.block b (Jj hb e.size) (fun h=>by have:=(hr b h.symm).1;omega)];exact e.same b hb hl
 ·obtain ⟨C',m',h1,h2⟩:=e.shape b C T m hb;exact⟨C',m',u.same _ _ _ _ h1,h2⟩
def Evo.others(hh:HeapRel w β hp)(e:Evo w β hp W β' hp'):KeepsOthers w W:=by
 refine⟨e.size,fun k o hk ho=>?_⟩;rw[e.same k (Jf.1 hk).1 ?_]
 ·exact hk
 rintro⟨j,B,h1,h2,h3⟩;obtain⟨C,c1,_⟩:=hh.blk j B k h1 h2 h3;rw[hk] at c1;cases c1;cases ho
def ln{hp0 hp:Qb}(h:hp.take hp0.length=hp0){k:Nat}{B:Blk}(hk:hp0[k]?=some B):hp[k]?=some B:=by
 grind
def HeapRel.pre(hh:HeapRel w β hp)(h:hp.take hp0.length=hp0)(hr:∀(k:Nat) (B:Blk),hp0[k]?=some B->DV.refs.go hp0.length B.cells=true):HeapRel w β hp0:=by
 have lv:∀b,live β hp0 b->live β hp b:=fun b ⟨j,B,h1,h2,h3⟩=>⟨j,B,ln h h1,h2,h3⟩
 refine⟨fun k B b hk hl hb=>?_,fun k B hk=>hh.none k B (ln h hk),fun j k B B' b hj hk=>hh.inj j k B B' b (ln h hj) (ln h hk),fun k B b hk=>hh.avoid k B b (ln h hk),hh.bound⟩;obtain⟨C,c1,c2,c3⟩:=hh.blk k B b (ln h hk) hl hb;refine⟨C,c1,c2,fun i d hd=>⟨(c3 i d hd).1,(c3 i d hd).2.drop (DV.refs_go (hr k B hk) i d hd) (fun b hb=>hb.imp id (lv b))⟩⟩
def Evo.pre(e:Evo w β hp0 W β' hp)(hl:hp0.length<=hp1.length)(h:hp.take hp1.length=hp1):Evo w β hp0 W β' hp1:=
 ⟨e.os,e.tape,e.output,e.size,hl,e.beta,e.same,e.shape,fun b hb ⟨j,B,h1,h2,h3⟩=>e.im b hb ⟨j,B,ln h h1,h2,h3⟩,e.X⟩
def Lies(w:World)(β:Map)(hp:Qb)(W:World):Prop:=∃β1,HeapRel W β1 hp/\Evo w β hp W β1 hp
def Lies.grown(h:Lies w β hp W)(hg:W.grownBy W' row)(hr:∀r,row=some r->w.heap.size<=r/\∃o:Obj,W.heap[r]?=some o/\o.isCells=false):Lies w β hp W':=by
 obtain⟨β1,h1,h2⟩:=h;exact⟨β1,h1.up (Up.grown hg fun r h=>(hr r h).2),h2.grown hg hr⟩
def BodyOf(P:Program)(body:Code)(B:(Exit->St->Prop)->St->Prop):Prop:=
 ∀(rd:Option Nat) (n:Nat) (Q:Exit->St->Prop) (S:St),B Q S->∀(O:Org) (β:Map) (a:Act) (w:World),Sim O β S a w->body.wpIn (wd rd) n P (du O Q) a w
def BodyOf.plain(h:dO body=true):BodyOf P body (QH P body):=fun _ _ Q S hv O β a w hs=>nh body Q S h hv O β a w hs
def Zt(P:Program)(K:Nat)(ops0:Array Oper)(body':Code)(Q:Exit->St->Prop)(S:St):Prop:=
 QH P body' (fun e S'=>match e with|.exit k=>if k=K then vdr P ops0.toList ops0.toList [] (Q .ret) S' else Q (.exit k) S'|e=>Q e S') S
def BodyOf.cut (hm:P.follows .mixedOrders = true) (hB:iW ops0 = true) (hc:CutD K ops0 body body'):BodyOf P body (Zt P K ops0 body'):=fun _ _ Q S hv O β a w hs=>
 Zs hm hB hc _ Q (fun S h=>by simpa using h) (fun e S he h=>by
  cases e with
  |exit k =>
    dsimp only at h;rw[if_neg (fun e=>he (by rw[e]))] at h;exact h
  | _=>exact h) S hv O β a w hs
end Go.V
namespace Go.V
structure SimE(O:Org)(β:Map)(S:St)(a:Act)(w:World):Prop where
 size:a.tmps.size=S.nt
 tm:∀t,RelD w β S.hp (look S.tm t) (a.tmps.getD t undef)
 heap:HeapRel w β S.hp
 evo:Evo O.w O.β O.hp w β S.hp
 mark:a.defers=O.ds\/∃D,a.defers={ target:=.collected D,args:=#[] }::O.ds/\w.heap[D]?=some (.deferred (some []))/\O.w.heap.size<=D
def St.reb(S:St):St:={ S with base:=S.hp.length }
def SimE.reb(h:SimE O β S a w):Sim ⟨w,β,S.hp,a.defers⟩ β S.reb a w:=⟨rfl,h.size,h.tm,h.heap,Evo.refl _ _ _,rfl⟩
def SimE.on(h:SimE O β S a w)(h':Sim ⟨w,β,S.hp,a.defers⟩ β' S' a' w'):SimE O β' S' a' w':=by
 refine⟨h'.size,h'.tm,h'.heap,h.evo.trans h'.evo,?_⟩;rw[h'.defers];rcases h.mark with e|⟨D,e,hD,hl⟩
 ·exact .inl e
 ·exact .inr ⟨D,e,(Evo.others h.heap h'.evo).same D _ hD rfl,hl⟩
def EV(O:Org)(Q:Exit->St->Prop):Exit->Act->World->Prop:=fun e a w=>∃β S,SimE O β S a w/\Q e S
def VWpE(P:Program)(c:Code)(Q:Exit->St->Prop)(S:St):Prop:=∀(O:Org) (β:Map) (a:Act) (w:World),SimE O β S a w->c.wp P (EV O Q) a w
def VWp0(P:Program)(c:Code)(Q:Exit->St->Prop)(S:St):Prop:=∀(O:Org) (β:Map) (a:Act) (w:World),SimE O β S a w->a.defers=O.ds->c.wp P (EV O Q) a w
def VWpE.plain(h:QH P c Q S.reb):VWpE P c Q S:=fun O β a w hs=>
 wp_mono (Qx c Q _ h _ _ _ _ hs.reb) fun _ _ _ ⟨β',S',h',q⟩=>⟨β',S',hs.on h',q⟩
def VWp0.first(h:QH P x (fe Q (VWp0 P y Q)) S.reb):VWp0 P (.seq x y) Q S:=fun O β a w hs hd=>by
 refine wp_seq (wp_mono (Qx x _ _ h _ _ _ _ hs.reb) fun e a' w' hq=>?_);obtain⟨β',S',h',q⟩:=hq;cases e with
 |normal=>exact q O β' a' w' (hs.on h') (h'.defers.trans hd)
 |_=>exact⟨β',S',hs.on h',q⟩
def VWp0.then(h:VWp0 P x (fe Q (VWpE P y Q)) S):VWp0 P (.seq x y) Q S:=fun O β a w hs hd=>by
 refine wp_seq (wp_mono (h O β a w hs hd) fun e a' w' hq=>?_);obtain⟨β',S',h',q⟩:=hq;cases e with
 |normal=>exact q O β' a' w' h'
 |_=>exact⟨β',S',h',q⟩
def VWp0.block {id:Nat} (h:VWp0 P c (eE id Q) S):VWp0 P (.block id c) Q S:=fun O β a w hs hd=>by
 refine wp_block (wp_mono (h O β a w hs hd) fun e a' w' hq=>?_);obtain⟨β',S',hs',hq⟩:=hq;cases e with
 |exit id' =>
   simp only[eE] at hq;simp only[Exit.inBlock];split
   ·rename_i he;rw[if_pos he] at hq;exact⟨β',S',hs',hq⟩
   ·rename_i he;rw[if_neg he] at hq;exact⟨β',S',hs',hq⟩
 |_=>exact⟨β',S',hs',hq⟩
def Zu (hf:P.funcs[g]? = some fn) (hb:fn.body = some c) (hname:(fn.name == "runtime.NumGoroutine") = false) (hn:args.length<=fn.ntmps) (hc:VWp0 P c (eG P fn.results.toList h.length R) ⟨fn.ntmps,h.length,bj 0 args,h⟩):VCalls P g args h R:=by
 refine⟨fun w β vs hh ha=>.inl ⟨fn,hf,hname,by rw[hb];rfl,?_⟩⟩;refine callsIn_wide.1 (callsIn_of_wp_marks (n:=1) hf hb trivial (wpIn_wide.2 ?_));have hsz:vs.size=args.length:=ha.1.symm
 have hs:SimE ⟨w,β,h,[]⟩ β ⟨fn.ntmps,h.length,bj 0 args,h⟩ { tmps:=vs ++ Jq (fn.ntmps - vs.size) undef,defers:=[] } w:=by
  refine⟨vg,fun t=>?_,hh,Evo.refl w β h,.inl rfl⟩;rw[wC,if_pos (JF _),Un];cases ht:args[t]? with
  |none=>exact .any _
  |some d =>
    have hlt:t<vs.size:=by rw[hsz];exact(Jb.1 ht).1
    have e:(vs++Jq (fn.ntmps-vs.size) undef).getD t undef=vs.getD t undef:=by
     simp only[JC];rw[KB hlt]
    show RelD w β h d ((vs++Jq (fn.ntmps-vs.size) undef).getD t undef)
    rw[e];exact ha.2 t d ht
 refine wp_mono (hc _ β _ w hs rfl) fun e a' w' hq=>?_;obtain⟨β',S',hs',hq⟩:=hq
 -- the end,in a world that is the same but for blocks without cells
 have fin:∀W',Up w' W'->Evo w β h W' β' S'.hp->∀d,QQ P S' fn.results.toList=some d->gA h.length S'.hp d R->∃v,(results fn a'.tmps).run P W'=.ok v W'/\∃v' r h' β'',Ending.returned v=.returned v'/\Evo w β h W' β'' h'/\HeapRel W' β'' h'/\RelD W' β'' h' r v'/\R r h':=by
  intro W' u ev d hr hend;have hsim:Sim ⟨W',β',S'.hp,a'.defers⟩ β' S'.reb a' W':=⟨rfl,hs'.size,fun t=>(hs'.tm t).up u,hs'.heap.up u,Evo.refl _ _ _,rfl⟩
  obtain⟨v,r1,r2⟩:=wA (P:=P) (fn:=fn) (d:=d) hsim (by
   have e:cK P S'.reb=cK P S':=by funext r;cases r<;>rfl
   unfold QQ at hr |-
   rw[e]; exact hr)
  obtain⟨d',hp',k1,k2,k3,k4,k5⟩:=se (hs'.heap.up u) ev.len r2 hend;exact⟨v,r1,v,d',hp',β',rfl,⟨ev.os,ev.tape,ev.output,ev.size,vz,ev.beta,ev.same,ev.shape,fun b hb hl=>ev.im b hb (k5 b hl),ev.X⟩,k3,k2,k1⟩
 have key:(∃d,QQ P S' fn.results.toList=some d/\gA h.length S'.hp d R)->LeavesInM Fence.wide 1 P fn a'.tmps (fun e w'=>∃v r h' β',e=.returned v/\Evo w β h w' β' h'/\HeapRel w' β' h'/\RelD w' β' h' r v/\R r h') a'.defers .returning w':=by
  rintro⟨d,hr,hend⟩;rcases hs'.mark with e0|⟨D,e0,hD,hl⟩
  ·rw [e0];exact fin w' ⟨Jo _,fun _ _ _ _ h=>h⟩ hs'.evo d hr hend
  ·rw [e0];refine⟨vv,.inl ⟨D,_,rfl,run_takeDeferred hD,?_⟩⟩;have hg:=grownBy_putObj' w' D (.deferred none);have hg2:∀r,some D=some r->w.heap.size<=r/\∃o:Obj,w'.heap[r]?=some o/\o.isCells=false:=fun r e=>by cases e;exact⟨hl,_,hD,rfl⟩
   exact fin _ (Up.grown hg fun r h=>(hg2 r h).2) (hs'.evo.grown hg hg2) d hr hend
 unfold eG at hq;cases e with
 |normal =>
   dsimp only at hq;split at hq
   ·rename_i d hd;exact key ⟨d,hd,hq⟩
   ·exact hq.elim
 |ret =>
   dsimp only at hq;split at hq
   ·rename_i d hd;exact key ⟨d,hd,hq⟩
   ·exact hq.elim
 |_=>exact hq.elim
end Go.V
namespace Go.V
def Stable(G:World->World->Map->Qb->Prop):Prop:=∀(w0 w:World) (β:Map) (hp:Qb) (w':World) (β':Map) (hp':Qb),HeapRel w β hp->Evo w β hp w' β' hp'->G w0 w β hp->G w0 w' β' hp'
def Stable.and(h:Stable G)(h':Stable G'):Stable (fun w0 w β hp=>G w0 w β hp/\G' w0 w β hp):=fun w0 w β hp w' β' hp' hh e q=>⟨h w0 w β hp w' β' hp' hh e q.1,h' w0 w β hp w' β' hp' hh e q.2⟩
structure SimG(G:World->World->Map->Qb->Prop)(O:Org)(β:Map)(S:St)(a:Act)(w:World):Prop where
 defers:a.defers=O.ds
 size:a.tmps.size=S.nt
 tm:∀t,RelD w β S.hp (look S.tm t) (a.tmps.getD t undef)
 heap:HeapRel w β S.hp
 evo:Evo O.w O.β O.hp w β S.hp
 g:G O.w w β S.hp
def SimG.reb(h:SimG G O β S a w):Sim ⟨w,β,S.hp,a.defers⟩ β S.reb a w:=⟨rfl,h.size,h.tm,h.heap,Evo.refl _ _ _,rfl⟩
def SimG.on(hG:Stable G)(h:SimG G O β S a w)(h':Sim ⟨w,β,S.hp,a.defers⟩ β' S' a' w'):SimG G O β' S' a' w':=
 ⟨h'.defers.trans h.defers,h'.size,h'.tm,h'.heap,h.evo.trans h'.evo,hG _ _ _ _ _ _ _ h.heap h'.evo h.g⟩
variable {P:Program} {γ:Type} {Γ:γ->World->World->Map->Qb->Prop}
def pD(Γ:γ->World->World->Map->Qb->Prop)(O:Org)(Q:Exit->St->γ->Prop):Exit->Act->World->Prop:=fun e a w=>∃β S g,SimG (Γ g) O β S a w/\Q e S g
def VWpG(P:Program)(Γ:γ->World->World->Map->Qb->Prop)(c:Code)(Q:Exit->St->γ->Prop)(S:St)(g:γ):Prop:=∀(O:Org) (β:Map) (a:Act) (w:World),SimG (Γ g) O β S a w->c.wp P (pD Γ O Q) a w
def ni(Q:Exit->St->γ->Prop)(K:St->γ->Prop):Exit->St->γ->Prop
 |.normal,S,g=>K S g
 |e,S,g=>Q e S g
def pE(id:Nat)(Q:Exit->St->γ->Prop):Exit->St->γ->Prop
 |.exit id',S,g=>if id'=id then Q .normal S g else Q (.exit id') S g
 |e,S,g=>Q e S g
theorem VWpG.plain(hΓ:∀g,Stable (Γ g))(h:QH P c (fun e S'=>Q e S' g) S.reb):VWpG P Γ c Q S g:=fun _ _ _ _ hs=>
 wp_mono (Qx c _ _ h _ _ _ _ hs.reb) fun _ _ _ ⟨β',S',h',q⟩=>⟨β',S',g,hs.on (hΓ g) h',q⟩
theorem VWpG.seq(h:VWpG P Γ x (ni Q (VWpG P Γ y Q)) S g):VWpG P Γ (.seq x y) Q S g:=fun O β a w hs=>by
 refine wp_seq (wp_mono (h O β a w hs) fun e a' w' hq=>?_);obtain⟨β',S',g',h',q⟩:=hq;cases e with
 |normal=>exact q O β' a' w' h'
 |_=>exact⟨β',S',g',h',q⟩
theorem VWpG.first(hΓ:∀g,Stable (Γ g))(h:QH P x (fun e S'=>ni Q (VWpG P Γ y Q) e S' g) S.reb):VWpG P Γ (.seq x y) Q S g:=(VWpG.plain hΓ h).seq
theorem VWpG.block {id:Nat} (h:VWpG P Γ c (pE id Q) S g):VWpG P Γ (.block id c) Q S g:=fun O β a w hs=>by
 refine wp_block (wp_mono (h O β a w hs) fun e a' w' hq=>?_);obtain⟨β',S',g',hs',hq⟩:=hq;cases e with
 |exit id' =>
   simp only[pE] at hq;simp only[Exit.inBlock];split
   ·rename_i he;rw[if_pos he] at hq;exact⟨β',S',g',hs',hq⟩
   ·rename_i he;rw[if_neg he] at hq;exact⟨β',S',g',hs',hq⟩
 |_=>exact⟨β',S',g',hs',hq⟩
theorem VWpG.cond(ht:S.ev c=.pv (.lit (.bool t)))(h1:t=true->VWpG P Γ x Q S g)(h2:t=false->VWpG P Γ y Q S g):VWpG P Γ (.cond c x y) Q S g:=fun O β a w hs=>by
 have hc:=hs.reb.ev c;have e:S.reb.ev c=S.ev c:=by cases c<;>rfl
 rw[e,ht] at hc;exact wp_cond_split (Qk hc) (fun q=>h1 q O β a w hs) (fun q=>h2 q O β a w hs)
def WeakG(Γ:γ->World->World->Map->Qb->Prop)(S:St)(g:γ)(S':St)(g':γ):Prop:=∀(O:Org) (β:Map) (a:Act) (w:World),SimG (Γ g) O β S a w->∃β',SimG (Γ g') O β' S' a w
theorem VWpG.loop {c:Code} {Q:Exit->St->γ->Prop} {g:γ} {ι:Type} (I:ι->St) (J:ι->γ) (μ:ι->Nat) (i₀:ι) (h₀:WeakG Γ S g (I i₀) (J i₀)) (round:∀i,VWpG P Γ c (ni Q fun S' g'=>∃j,μ j < μ i/\WeakG Γ S' g' (I j) (J j)) (I i) (J i)):VWpG P Γ (.loop c) Q S g:=by
 intro O β a w hs b k cs
 have key:∀n β i a w,μ i = n->SimG (Γ (J i)) O β (I i) a w ->
  ∃e a' w',pD Γ O Q e a' w'/\Arrives P (lone (b.at a (.code c::.inLoop c::k)) cs w) b k cs e a' w':=by
  intro n;induction n using KA with
  |_ n ih =>
    intro β i a w hn hs;obtain⟨e,a₁,w₁,hq,harr⟩:=round i O β a w hs b (.inLoop c::k) cs;obtain⟨β₁,S₁,g₁,hs₁,hq⟩:=hq;cases e with
    |normal =>
      obtain⟨j,hlt,hle⟩:=hq;obtain⟨β₂,hs₂⟩:=hle _ _ _ _ hs₁;obtain⟨e₂,a₂,w₂,hq₂,harr₂⟩:=ih (μ j) (hn▸hlt) β₂ j a₁ w₁ rfl hs₂;exact⟨e₂,a₂,w₂,hq₂,.of_steps (Steps.trans harr (.one step_inLoop)) harr₂⟩
    |exit id=>exact⟨_,a₁,w₁,⟨β₁,S₁,g₁,hs₁,hq⟩,.pass (x:=.inLoop c) rfl (fun _ _=>.inl vv) harr⟩
    |goto l=>exact⟨_,a₁,w₁,⟨β₁,S₁,g₁,hs₁,hq⟩,.pass (x:=.inLoop c) rfl (fun _ _=>.inl vv) harr⟩
    |ret=>exact⟨_,a₁,w₁,⟨β₁,S₁,g₁,hs₁,hq⟩,.pass (x:=.inLoop c) rfl (fun _ _=>.inl vv) harr⟩
    |panic ch=>exact⟨_,a₁,w₁,⟨β₁,S₁,g₁,hs₁,hq⟩,.pass (x:=.inLoop c) rfl (fun _ _=>.inl vv) harr⟩
    |outgrown=>exact⟨_,a₁,w₁,⟨β₁,S₁,g₁,hs₁,hq⟩,.pass (x:=.inLoop c) rfl (fun _ _=>.inl vv) harr⟩
 obtain⟨β₀,hs₀⟩:=h₀ _ _ _ _ hs;obtain⟨e,a',w',hq,harr⟩:=key _ β₀ i₀ a w rfl hs₀;exact⟨e,a',w',hq,.of_steps (.one step_loop) harr⟩
theorem WeakG.of(hw:∀w0 w β hp β' hp',Γ g w0 w β hp->Γ g w0 w β' hp')(h:gC S.reb { S' with base:=S.hp.length }):WeakG Γ S g S' g:=fun O β a w hs=>by
 obtain⟨β',h'⟩:=hs.reb.weak h;exact⟨β',h'.defers.trans hs.defers,h'.size,h'.tm,h'.heap,hs.evo.trans h'.evo,hw _ _ _ _ _ _ hs.g⟩
end Go.V
namespace Go.V
open Go.MapKept
end Go.V
namespace Go.V
variable {P:Program} {γ:Type} {Γ:γ->World->World->Map->Qb->Prop}
def OpG (P:Program) (Γ:γ->World->World->Map->Qb->Prop) (ops:Array Oper) (o:Oper) (K:St->γ->Prop) (S:St) (g:γ):Prop :=
 ∀(n:Nat) (Q:Exit->Act->World->Prop) (next:Act->World->Prop) (O:Org) (β:Map) (a:Act) (w:World),SimG (Γ g) O β S a w ->
   (∀β' S' g' a' w',SimG (Γ g') O β' S' a' w'->K S' g'->next a' w') ->
   if Region.wanted o (yielded ops a.tmps)=true then o.wpIn (wd none) n P a w next Q else next (a.put o.dst undef) w
def bk:List (List Oper×Option Oper)->List Oper
 |[]=>[]
 |(A,none)::r=>A++bk r
 |(A,some o)::r=>A++o::bk r
def lp(P:Program)(Γ:γ->World->World->Map->Qb->Prop)(ops:Array Oper):List (List Oper×Option Oper)->(St->γ->Prop)->St->γ->Prop
 |[],K,S,g=>K S g
 |(A,none)::r,K,S,g=>an P ops.toList A (fun S1=>lp P Γ ops r K S1 g) S.reb
 |(A,some o)::r,K,S,g=>an P ops.toList A (fun S1=>OpG P Γ ops o (lp P Γ ops r K) S1 g) S.reb
theorem xu (hΓ:∀g,Stable (Γ g)) (hK:∀β S g a w,SimG (Γ g) O β S a w->K S g->Q .normal a w):
 ∀(ch:List (List Oper × Option Oper)) (pre:List Oper),ops.toList = pre ++ bk ch->∀(β:Map) (S:St) (g:γ) (a:Act) (w:World),SimG (Γ g) O β S a w->lp P Γ ops ch K S g ->
   wpOpsIn (wd none) n P ops Q (J0 pre.length (bk ch).length) a w
 |[],pre,_,β,S,g,a,w,hs,h=>by
   simp only[bk,Jg,Uf,wpOpsIn];exact hK β S g a w hs h
 |(A,none) :: r,pre,hops,β,S,g,a,w,hs,h=>by
   have e:J0 pre.length (bk ((A,none)::r)).length=J0 pre.length A.length++J0 (pre++A).length (bk r).length:=by
    simp only[bk,Ji];rw[<-Kv]
   rw[e];refine sU (P:=P) (rd:=none) (n:=n) (ops:=ops) (Q:=Q) (T:=fun _=>True) (fun _ _ _ _ _=>trivial) ?_ A pre (bk r) (by rw[hops];simp[bk]) β S.reb a w hs.reb trivial h;intro β1 S1 a1 w1 hs1 _ h1;exact xu hΓ hK r (pre++A) (by rw[hops];simp[bk]) β1 S1 g a1 w1 (hs.on (hΓ g) hs1) h1
 |(A,some o) :: r,pre,hops,β,S,g,a,w,hs,h=>by
   have e:J0 pre.length (bk ((A,some o)::r)).length=J0 pre.length A.length++((pre++A).length::J0 (pre++A++[o]).length (bk r).length):=by
    simp only[bk,Ji,Jc,Jg];rw[show(pre.length+A.length)::J0 (pre.length+A.length+(0+1)) (bk r).length=J0 (pre.length+A.length) ((bk r).length+1) by rw[Ug],<-Kv]
   rw[e];refine sU (P:=P) (rd:=none) (n:=n) (ops:=ops) (Q:=Q) (T:=fun _=>True) (fun _ _ _ _ _=>trivial) ?_ A pre (o::bk r) (by rw[hops];simp[bk]) β S.reb a w hs.reb trivial h;intro β1 S1 a1 w1 hs1 _ h1
   have hidx:ops[(pre++A).length]?=some o:=by
    have:ops.toList[(pre++A).length]?=some o:=by rw[hops];simp[bk]
    simpa using this
   have:=h1 n Q (wpOpsIn (wd none) n P ops Q (J0 (pre++A++[o]).length (bk r).length)) O β1 a1 w1 (hs.on (hΓ g) hs1) (fun β' S' g' a' w' hs' hk=>xu hΓ hK r (pre++A++[o]) (by rw[hops];simp[bk]) β' S' g' a' w' hs' hk);simp only[wpOpsIn,hidx];split
   ·rename_i hw;rw[if_pos hw] at this;exact this
   ·rename_i hw;rw[if_neg hw] at this;exact⟨fun _ _=>trivial,this⟩
theorem VWpG.region(hΓ:∀g,Stable (Γ g)){id:Nat}(ch:List (List Oper×Option Oper))(hch:ops.toList=bk ch)(h:lp P Γ ops ch (Q .normal) S g):VWpG P Γ (.region id ops false) Q S g:=fun O β a w hs=>by
 rw[<-wpIn_wide (n:=10)];refine wpIn_region (F:=wd none) ?_;have:=xu (n:=10) (P:=P) hΓ (Q:=pD Γ O Q) (O:=O) (fun β S g a w h1 h2=>⟨β,S,g,h1,h2⟩) ch [] (by simpa using hch) β S g a w hs h;rw[<-hch] at this;simpa [Kg] using this
abbrev Maps:=List (Nat×List (Int×Value))
theorem SimG.put {G G':World->World->Map->Qb->Prop} {O:Org} {β:Map} {S:St} {a:Act} {w w':World} {dst:Option Tmp} {d:DV} {v:Value} (h:SimG G O β S a w) (u:Up w w') (ev:Evo O.w O.β O.hp w' β S.hp)
 (hf:S.fits dst=true) (hd:RelD w' β S.hp d v) (h6:G' O.w w' β S.hp):SimG G' O β (S.put dst d) (a.put dst v) w':=by
 refine⟨by rw[w8];exact h.defers,?_,fun t=>?_,by rw[St.put_hp];exact h.heap.up u,by rw[St.put_hp];exact ev,by rw[St.put_hp];exact h6⟩
 ·rw[py,St.put_nt];exact h.size
 ·rw [St.put_hp];cases dst with
  |none=>exact(h.tm t).up u
  |some t0 =>
    have hlt:t0<a.tmps.size:=by rw[h.size];simpa [St.fits] using hf
    simp only[St.put,look,Act.put];split
    ·rename_i e;subst e;simpa [JC,hlt] using hd
    ·rename_i e;have:=(h.tm t).up u;simpa [JC,Kw,e] using this
theorem sV(hs:SimG G O β S a w)(hG:QJ ops.toList S o=some b):Region.wanted o (yielded ops a.tmps)=b:=by
 refine QS (ops:=ops) hs.reb ?_;rw[<-hG];rfl
theorem Cj(hG:QJ ops.toList S o=some false)(hf:S.fits o.dst=true)(hK:K (S.put o.dst (.tup [])) g):OpG P Γ ops o K S g:=fun n Q next O β a w hs hn=>by
 rw[sV hs hG,if_neg vv];exact hn β _ g _ _ (hs.put ⟨Jo _,fun _ _ _ _ h=>h⟩ hs.evo hf (.tup [] #[] rfl vv) hs.g) hK
theorem fM(hs:SimG G O β S a w)(x:Operand):RelD w β S.hp (Qn true (S.ev x)) (a.eval x):=by
 have e:S.reb.ev x=S.ev x:=by cases x<;>rfl
 exact gy (e▸hs.reb.ev x) rfl
end Go.V
namespace Go.V
open Go.MapKept
structure EvoC(w:World)(β:Map)(hp:Qb)(w':World)(β':Map)(hp':Qb):Prop where
 size:w.heap.size<=w'.heap.size
 len:hp.length<=hp'.length
 beta:∀k,k<hp.length->β'.f k=β.f k
 same:∀(b:Nat) (C:Array Value) (T:TypeId) (m:Nat×Nat),w.heap[b]?=some (.cells C T m)->¬live β hp b->w'.heap[b]?=w.heap[b]?
 shape:∀(b:Nat) (C:Array Value) (T:TypeId) (m:Nat×Nat),w.heap[b]?=some (.cells C T m)->∃C' m',w'.heap[b]?=some (.cells C' T m')/\C'.size=C.size
 im:∀b,b<w.heap.size->live β' hp' b->live β hp b
 X:β'.X=β.X
def Evo.toC(e:Evo w β hp w' β' hp'):EvoC w β hp w' β' hp':=
 ⟨e.size,e.len,e.beta,fun b _ _ _ h hl=>e.same b (Jf.1 h).1 hl,e.shape,e.im,e.X⟩
def EvoC.refl(w:World)(β:Map)(hp:Qb):EvoC w β hp w β hp:=(Evo.refl w β hp).toC
def Up.toC(u:Up w w')(β:Map)(hp:Qb):EvoC w β hp w' β hp:=
 ⟨u.size,Jo _,fun _ _=>rfl,fun b C T m h _=>by rw[u.same b C T m h,h],fun b C T m h=>⟨C,m,u.same b C T m h,rfl⟩,fun _ _ h=>h,rfl⟩
def EvoC.trans{w0 w1 w2:World}{β0 β1 β2:Map}{h0 h1 h2:Qb}(a:EvoC w0 β0 h0 w1 β1 h1)(b:EvoC w1 β1 h1 w2 β2 h2):EvoC w0 β0 h0 w2 β2 h2:=by
 refine⟨KY a.size b.size,KY a.len b.len,fun k hk=>by rw[b.beta k (Jj hk a.len),a.beta k hk],fun x C T m h hl=>?_,fun x C T m h=>?_,fun x hx h=>a.im x hx (b.im x (Jj hx a.size) h),b.X.trans a.X⟩
 ·have e1:=a.same x C T m h hl;rw[b.same x C T m (e1.trans h) (fun h'=>hl (a.im x (Jf.1 h).1 h')),e1]
 ·obtain ⟨C',m',h',e⟩:=a.shape x C T m h;obtain⟨C'',m'',h'',e'⟩:=b.shape x C' T m' h';exact⟨C'',m'',h'',e'.trans e⟩
def xw{w w':World}{a:Addr}(h:w.cell? a=some v)(hs:∀(C:Array Value) (T:TypeId) (m:Nat×Nat),w.heap[a.block]?=some (.cells C T m)->w'.heap[a.block]?=w.heap[a.block]?):w'.cell? a=some v:=by
 obtain⟨o,ho,hc⟩:=cells_of_cell h;cases o with
 |cells C T m=>rw[oH (hs C T m ho)];exact h
 |_=>simp[Obj.isCells] at hc
def RelP.monoC (h:RelP w im p v) (hsz:w.heap.size<=w'.heap.size) (hs:∀(b:Nat) (C:Array Value) (T:TypeId) (m:Nat × Nat),w.heap[b]? = some (.cells C T m)->¬im b->w'.heap[b]? = w.heap[b]?) (hi:∀b,b < w.heap.size->im' b->im b):RelP w' im' p v:=by
 induction h with
 |lit v h=>exact .lit v h
 |str l=>exact .str l
 |sl xs a cap sz val h1 h2 h3 h4 h5 _ ih =>
   refine .sl xs a cap sz val h1 h2 h3 h4 (fun i j c d hc hd=>?_) (fun i j c d hc hd=>ih i j c d hc hd);obtain⟨ad,e,hb,hn,hcell⟩:=h5 i j c d hc hd;exact⟨ad,e,Jj hb hsz,fun x=>hn (hi _ hb x),xw hcell fun C T m h=>hs _ C T m h hn⟩
 |slc xs a sz val h2 h3 h4 h5 _ ih =>
   refine .slc xs a sz val h2 h3 h4 (fun i j c d hc hd=>?_) (fun i j c d hc hd=>ih i j c d hc hd);obtain⟨ad,e,hb,hn,hcell⟩:=h5 i j c d hc hd;exact⟨ad,e,Jj hb hsz,fun x=>hn (hi _ hb x),xw hcell fun C T m h=>hs _ C T m h hn⟩
def EvoC.img{w w':World}{β β':Map}{hp hp':Qb}(e:EvoC w β hp w' β' hp'):∀b,b<w.heap.size->img β' hp' b->img β hp b:=
 fun b h l=>l.imp (fun x=>by rw[<-e.X];exact x) (e.im b h)
def RelD.monoC (h:RelD w β hp d v) (e:EvoC w β hp w' β' hp'):RelD w' β' hp' d v:=by
 have hs:∀(b:Nat) (C:Array Value) (T:TypeId) (m:Nat×Nat),w.heap[b]?=some (.cells C T m)->¬V.img β hp b->w'.heap[b]?=w.heap[b]?:=fun b C T m h n=>e.same b C T m h fun l=>n (.inr l);induction h with
 |pv p v h=>exact .pv p v (h.monoC e.size hs e.img)
 |ptr k off b h hb=>exact .ptr k off b (Jj h e.len) ((e.beta k h).trans hb)
 |own k sz off len cap b C T m h hb h1 h2 h3 h4 =>
   obtain⟨C',m',h3',hs⟩:=e.shape _ _ _ _ h3;exact .own k sz off len cap b C' T m' (Jj h e.len) ((e.beta k h).trans hb) h1 h2 h3' (by rw[hs];exact h4)
 |ownc k sz off len cap b o C T m h hb h1 h2 h3 h4 h5 =>
   obtain⟨C',m',h3',hs⟩:=e.shape _ _ _ _ h3;exact .ownc k sz off len cap b o C' T m' (Jj h e.len) ((e.beta k h).trans hb) h1 h2 h3' (by rw[hs];exact h4) h5
 |own0 k sz a h hb ha=>exact .own0 k sz a (Jj h e.len) ((e.beta k h).trans hb) ha
 |ip cs ad val h1 h2 h3 =>
   refine .ip cs ad val h1 (fun j d hd=>?_) (fun j d hd=>(h3 j d hd).monoC e.size hs e.img);obtain⟨a,b,c⟩:=h2 j d hd;exact⟨Jj a e.size,fun x=>b (e.img _ a x),xw c fun C T m h=>hs _ C T m h b⟩
 |agg ds vs h _ ih=>exact .agg ds vs h ih
 |fn f ds es vs us h h' _ _ ih ih'=>exact .fn f ds es vs us h h' ih ih'
 |tup ds vs h _ ih=>exact .tup ds vs h ih
 |opt c d v _ hf ih=>exact .opt c d v ih hf
 |any v=>exact .any v
abbrev oD:=List (Value×DV)
abbrev MapsD:=List (Nat×oD)
structure MapAt(w:World)(β:Map)(hp:Qb)(b:Nat)(L:oD):Prop where
 at_:∃es clock,w.heap[b]?=some (.map es clock)/\Stamped es clock/\es.toList.map (·.key)=L.map (·.1)/\∀(i:Nat) (e:MapEntry) (p:Value×DV),es.toList[i]?=some e->L[i]?=some p->RelD w β hp p.2 e.val
def EW(g:MapsD)(w0 w:World)(β:Map)(hp:Qb):Prop:=(g.map (·.1)).Nodup/\∀p∈g,w0.heap.size<=p.1/\MapAt w β hp p.1 p.2
abbrev bN:=World×Map×Qb
def MapsD.At(c:bN)(g:MapsD)(w0 w:World)(β:Map)(hp:Qb):Prop:=EW g w0 w β hp/\EvoC c.1 c.2.1 c.2.2 w β hp
abbrev MapsIn(c:bN):MapsD->World->World->Map->Qb->Prop:=fun g=>MapsD.At c g
def MapAt.go(h:MapAt w β hp b L)(e:EvoC w β hp w' β' hp')(hb:w'.heap[b]?=w.heap[b]?):MapAt w' β' hp' b L:=by
 obtain⟨es,clock,h1,h2,h3,h4⟩:=h.at_;exact⟨es,clock,hb.trans h1,h2,h3,fun i e' p q1 q2=>(h4 i e' p q1 q2).monoC e⟩
def Qa(c:bN)(g:MapsD):Stable (MapsIn c g):=fun w0 w β hp w' β' hp' hh e h=>⟨⟨h.1.1,fun p hp=>by
 obtain⟨h1,h2⟩:=h.1.2 p hp;obtain⟨es,clock,q,_⟩:=h2.at_
 exact⟨h1,h2.go e.toC ((Evo.others hh e).same _ _ q rfl |>.trans q.symm)⟩⟩,h.2.trans e.toC⟩
structure KeyT(P:Program)(kt:TypeId){κ:Type}[DecidableEq κ](enc:κ->Value):Prop where
 check:∀(e:Bool) (w:World) (k:κ),(Instr.checkKey e 10000 kt (enc k)).run P w=.ok () w
 find:∀(w:World) (k:κ) (l:List MapEntry) (ks:List κ),l.map (·.key)=ks.map enc->(Instr.findKey kt (enc k) l).run P w=.ok ((ks.findIdx? (fun x=>decide (x=k))).bind fun i=>(l[i]?).map fun e=>(i,e.val)) w
 stays:∀(w:World) (k:κ),(Instr.keyThatStays (enc k) (enc k)).run P w=.ok (enc k) w
 inj:∀a b,enc a=enc b->a=b
def EX:∀{l:List MapEntry} {ks:List Int} {i:Nat},l.map (·.key) = ks.map (fun x=>Value.int .i64 x)->Instr.findNow (.int q) (.int .i64 k) l i = some ((ks.findIdx? (fun x=>decide (x = k))).bind fun j=>(l[j]?).map fun e=>(i + j,e.val))
 |[],[],i,_=>rfl
 |[],_::_,_,h=>by simp at h
 |_::_,[],_,h=>by simp at h
 |e :: l,a :: ks,i,h=>by
   simp only[Jr,List.cons.injEq] at h;have hs:Instr.sameNow (.int q) (.int .i64 k) e.key=some (k==a):=by rw[h.1];simp[Instr.sameNow]
   by_cases hka:a=k
   ·subst hka;simp[Instr.findNow,hs,J6]
   ·have hb:(k == a) = false:=by simpa using fun h=>hka h.symm
    have:=EX (q:=q) (k:=k) (i:=i+1) h.2;simp only[Instr.findNow,hs,hb,this,J6,decide_eq_false hka];cases hf:ks.findIdx? (fun x=>decide (x=k)) with
    |none=>simp[hf]
    |some j=>simp[hf];congr 1;funext x;simp;omega
def N3(hk:P.underlying kt=some (.int .i64)):KeyT P kt (fun x:Int=>Value.int .i64 x):=
 ⟨fun e w k=>run_checkKey hk (by simp[IsKey]) e 9999,fun w k l ks h=>by rw[run_findKey hk (EX (i:=0) h)];simp,fun w k=>by simp[Instr.keyThatStays,Instr.sameBits],fun a b h=>by simpa using h⟩
section
variable {κ:Type} [DecidableEq κ]
def ag(enc:κ->Value)(L:List (κ×DV)):oD:=L.map fun p=>(enc p.1,p.2)
def aq:List (κ×DV)->κ->Option DV
 |[],_=>none
 |(a,x)::r,k=>if a=k then some x else aq r k
def aR:List (κ×DV)->κ->DV->List (κ×DV)
 |[],k,v=>[(k,v)]
 |(a,x)::r,k,v=>if a=k then (a,v)::r else (a,x)::aR r k v
def eC(L:List (κ×DV))(k:κ):List (κ×DV):=L.filter fun p=>!decide (p.1=k)
theorem Cw (L:List (κ × DV)) (k:κ) (v:DV) (k':κ):aq (aR L k v) k' = if k = k' then some v else aq L k':=by
 induction L with
 |nil=>simp[aR,aq]
 |cons p r ih =>
   obtain⟨a,x⟩:=p;by_cases h:a=k
   ·subst h;simp only[aR,aq,if_true];split<;>rfl
   ·simp only [aR,if_neg h,aq,ih];by_cases h':a=k'
    ·subst h';rw[if_pos rfl,if_neg (Ne.symm h),if_pos rfl]
    ·rw[if_neg h',if_neg h']
theorem Zw (L:List (κ × DV)) (k:κ):aq L k = ((L.map (·.1)).findIdx? (fun x=>decide (x = k))).bind fun i=>(L[i]?).map (·.2):=by
 induction L with
 |nil=>rfl
 |cons p r ih =>
   obtain⟨a,x⟩:=p;by_cases h:a=k
   ·subst h;simp[aq,J6]
   ·simp only [aq,if_neg h,ih,Jr,J6,decide_eq_false h];cases hf:(r.map (·.1)).findIdx? (fun x=>decide (x=k))<;>simp[hf]
theorem Cv (L:List (κ × DV)) (k:κ) (v:DV) (h:(L.map (·.1)).findIdx? (fun x=>decide (x = k)) = none):aR L k v = L ++ [(k,v)]/\∀p ∈ L,p.1 ≠ k:=by
 induction L with
 |nil=>simp[aR]
 |cons p r ih =>
   obtain⟨a,x⟩:=p;simp only[Jr,J6] at h;by_cases ha:a=k
   ·simp[ha] at h
   ·simp only [decide_eq_false ha,Kc,if_false,Option.map_eq_none_iff] at h;obtain⟨h1,h2⟩:=ih h;exact⟨by simp[aR,ha,h1],by simp[ha];intro a' b hm;exact h2 (a',b) hm⟩
theorem Zx (L:List (κ × DV)) (k:κ) (v:DV) (h:(L.map (·.1)).findIdx? (fun x=>decide (x = k)) = some i):aR L k v = L.set i (k,v)/\∃d,L[i]? = some (k,d):=by
 induction L generalizing i with
 |nil=>simp at h
 |cons p r ih =>
   obtain⟨a,x⟩:=p;simp only[Jr,J6] at h;by_cases ha:a=k
   ·simp [ha] at h;subst h;simp[aR,ha]
   ·simp only [decide_eq_false ha,Kc,if_false,Option.map_eq_some_iff] at h;obtain⟨j,hj,rfl⟩:=h;obtain⟨h1,d,h2⟩:=ih hj;exact⟨by simp[aR,ha,h1],d,by simpa using h2⟩
end
end Go.V
namespace Go.V
open Go.MapKept
variable {P:Program} {γ:Type} {Γ:γ->World->World->Map->Qb->Prop}
def fp (P:Program) (Γ:γ->World->World->Map->Qb->Prop) (o:Oper) (K:St->γ->Prop) (S:St) (g:γ):Prop :=
 ∀(O:Org) (β:Map) (a:Act) (w:World),SimG (Γ g) O β S a w ->
   ∃v w',((execOp a.eval o).run P w=.ok (.value v) w'\/((execOp a.eval o).run P w=.ok .skip w'/\v=undef))/\∃β' S' g',SimG (Γ g') O β' S' (a.put o.dst v) w'/\K S' g'
theorem QR(hG:QJ ops.toList S o=some true)(nd:∀c,o.op≠.defer c)(h:fp P Γ o K S g):OpG P Γ ops o K S g:=fun n Q next O β a w hs hn=>by
 rw[sV hs hG,if_pos rfl];obtain⟨v,w',h1,β',S',g',h2,h3⟩:=h O β a w hs;refine⟨fun _ _=>trivial,?_⟩;rw[Oper.semAt_plain _ _ _ nd];rcases h1 with h1|⟨h1,rfl⟩
 ·rw[h1];exact hn _ _ _ _ _ h2 h3
 ·rw[h1];exact hn _ _ _ _ _ h2 h3
theorem EY [DecidableEq κ] (ht:P.underlying t = some (.map kt et)) (hk:KeyT P kt enc) (hz:∀w,(zeroValue et).run P w = .ok zv w) (hzr:∀w β hp,RelD w β hp z zv) (h:MapAt w β hp b (ag enc L)) (k:κ) (c:Bool):
 ∃v,(Instr.lookup t (.map (some b)) (enc k) c).run P w=.ok (if c then .tuple #[v,.bool (aq L k).isSome] else v) w/\RelD w β hp ((aq L k).getD z) v:=by
 obtain⟨es,clock,h1,h2,h3,h4⟩:=h.at_;have hf:=hk.find w k es.toList (L.map (·.1)) (by rw[h3];simp[ag]);have hlen:es.toList.length=L.length:=by have:=congrArg KK h3;simpa [ag] using this
 rw[Zw];unfold Instr.lookup;simp only[Sem.run_bind,run_underlying ht,Result.andThen,Go.MapKept.run_getObj_map h1,Sem.run_pure,hk.check,hf];cases hi:(L.map (·.1)).findIdx? (fun x=>decide (x=k)) with
 |none=>exact⟨zv,by cases c<;>simp[hz,Result.andThen],by simpa using hzr w β hp⟩
 |some i =>
   have hlt:i<L.length:=by
    have:=(List.findIdx?_eq_some_iff_findIdx_eq.1 hi).1;simpa using this
   have e1:L[i]?=some L[i]:=Ja hlt;have e2:es.toList[i]?=some es.toList[i]:=Ja vz;have hr:=h4 i _ (enc L[i].1,L[i].2) e2 (by simp[ag,e1]);refine⟨es.toList[i].val,?_,?_⟩
   ·simp only [Kt,e2,Jw,e1];cases c<;>simp
   ·simp only[Kt,e1,Jw,Ks];exact hr
theorem oE(hop:o.op=.makeMap t none)(hf:S.fits o.dst=true)(hK:∀b,(∀p∈g,p.1≠b)->K (S.put o.dst (aw o.guard true (.pv (.lit (.map (some b)))))) ((b,[])::g)):fp P (MapsIn c) o K S g:=fun O β a w hs=>by
 have hgr:=World.grownBy_alloc w (.map #[] 0) none;have e1:=Go.MapKept.heap_alloc w (.map #[] 0);have hu:Up w (w.alloc (.map #[] 0)):=Up.grown hgr vv
 have fresh:∀p∈g,p.1≠w.heap.size:=fun p hp he=>by
  obtain⟨es,clock,q,_⟩:=(hs.g.1.2 p hp).2.at_;rw[he] at q;simp at q
 refine⟨.map (some w.heap.size),w.alloc (.map #[] 0),.inl ?_,β,_,_,hs.put hu (hs.evo.grown hgr vv) hf (QU (.pv _ _ (.lit _ rfl))) ⟨⟨?_,?_⟩,hs.g.2.trans (hu.toC _ _)⟩,hK w.heap.size fresh⟩
 ·simp [execOp,hop];rfl
 ·rw [Jr,List.nodup_cons];refine⟨fun hm=>?_,hs.g.1.1⟩;obtain⟨p,hp,he⟩:=J4.1 hm;exact fresh p hp he
 ·intro p hp;rcases KO.1 hp with rfl|hp
  ·exact⟨hs.evo.size,⟨#[],0,e1.1,stamped_empty 0,rfl,fun i e p h=>by simp at h⟩⟩
  ·obtain ⟨h1,h2⟩:=hs.g.1.2 p hp;obtain⟨es,clock,q,_⟩:=h2.at_;exact⟨h1,h2.go (hu.toC _ _) (e1.2 _ (Jf.1 q).1)⟩
theorem iK{κ:Type}[DecidableEq κ]{enc:κ->Value}{c:bN}{o:Oper}{K:St->MapsD->Prop}{g:MapsD}{m x:Operand}{b:Nat}{L:List (κ×DV)}{k:κ}{z:DV}{zv:Value}(hop:o.op=.lookup t m x false)(hf:S.fits o.dst=true)(ht:P.underlying t=some (.map kt et))(hk:KeyT P kt enc)(hz:∀w,(zeroValue et).run P w=.ok zv w)(hzr:∀w β hp,RelD w β hp z zv)(hm:Qn true (S.ev m)=.pv (.lit (.map (some b))))(hL:(b,ag enc L)∈g)(hx:∀(w:World) (β:Map) (hp:Qb) (v:Value),RelD w β hp (Qn true (S.ev x)) v->v=enc k)(hK:K (S.put o.dst (aw o.guard true ((aq L k).getD z))) g):fp P (MapsIn c) o K S g:=fun O β a w hs=>by
 obtain⟨-,h2⟩:=hs.g.1.2 _ hL;have em:=fM hs m;rw[hm] at em;have ex:=hx _ _ _ _ (fM hs x);obtain⟨v,r1,r2⟩:=EY ht hk hz hzr h2 k false;refine⟨v,w,.inl ?_,β,_,g,hs.put ⟨Jo _,fun _ _ _ _ h=>h⟩ hs.evo hf (QU r2) hs.g,hK⟩;simp only[execOp,hop,Qk em,ex];simp[r1,Result.andThen]
theorem ou{κ:Type}[DecidableEq κ]{enc:κ->Value}{c:bN}{o:Oper}{K:St->MapsD->Prop}{g:MapsD}{m x:Operand}{b:Nat}{L:List (κ×DV)}{k:κ}{z:DV}{zv:Value}(hop:o.op=.lookup t m x true)(hf:S.fits o.dst=true)(ht:P.underlying t=some (.map kt et))(hk:KeyT P kt enc)(hz:∀w,(zeroValue et).run P w=.ok zv w)(hzr:∀w β hp,RelD w β hp z zv)(hm:Qn true (S.ev m)=.pv (.lit (.map (some b))))(hL:(b,ag enc L)∈g)(hx:∀(w:World) (β:Map) (hp:Qb) (v:Value),RelD w β hp (Qn true (S.ev x)) v->v=enc k)(hK:K (S.put o.dst (aw o.guard true (.tup [(aq L k).getD z,.bool (aq L k).isSome]))) g):fp P (MapsIn c) o K S g:=fun O β a w hs=>by
 obtain⟨-,h2⟩:=hs.g.1.2 _ hL;have em:=fM hs m;rw[hm] at em;have ex:=hx _ _ _ _ (fM hs x);obtain⟨v,r1,r2⟩:=EY ht hk hz hzr h2 k true;refine⟨.tuple #[v,.bool (aq L k).isSome],w,.inl ?_,β,_,g,hs.put ⟨Jo _,fun _ _ _ _ h=>h⟩ hs.evo hf (QU (.tup _ _ rfl fun i d hd=>?_)) hs.g,hK⟩
 ·simp only [execOp,hop,Qk em,ex];simp[r1,Result.andThen]
 ·match i with
  |0=>simp at hd;subst hd;exact r2
  |1=>simp at hd;subst hd;exact .pv _ _ (.lit _ rfl)
  |i+2=>simp at hd
theorem Zy [DecidableEq κ] (ht:P.underlying t = some (.map kt et)) (hk:KeyT P kt enc) (h:MapAt w β hp b (ag enc L)) (k:κ) (hd:RelD w β hp d v):
 ∃es' clock',(Instr.mapUpdate t (.map (some b)) (enc k) v).run P w = .ok () { w with heap:=w.heap.setIfInBounds b (.map es' clock') }/\Stamped es' clock'/\es'.toList.map (·.key) = (ag enc (aR L k d)).map (·.1) /\
   ∀(i:Nat) (e:MapEntry) (p:Value×DV),es'.toList[i]?=some e->(ag enc (aR L k d))[i]?=some p->RelD w β hp p.2 e.val:=by
 obtain⟨es,clock,h1,h2,h3,h4⟩:=h.at_;have h3':es.toList.map (·.key)=(L.map (·.1)).map enc:=by rw[h3];simp[ag]
 have hf:=hk.find w k es.toList (L.map (·.1)) h3';have hlen:es.toList.length=L.length:=by have:=congrArg KK h3;simpa [ag] using this
 cases hi:(L.map (·.1)).findIdx? (fun x=>decide (x=k)) with
 |none =>
   obtain⟨p1,p2⟩:=Cv L k d hi;rw[hi] at hf;refine⟨es.push { key:=enc k,val:=v,born:=clock },clock+1,?_,stamped_push h2 (fun x hx he=>?_),?_,fun i e p q1 q2=>?_⟩
   ·unfold Instr.mapUpdate;simp only[Sem.run_bind,run_underlying ht,Result.andThen,Go.MapKept.run_getObj_map h1,hk.check,hf,Option.bind_none,Go.MapKept.run_setObj_map _ h1]
   ·have:x.key ∈ (L.map (·.1)).map enc:=by rw [<-h3'];exact J4.2 ⟨x,hx,rfl⟩
    obtain⟨y,hy,e⟩:=J4.1 this;obtain⟨q,hq,rfl⟩:=J4.1 hy;exact p2 q hq (hk.inj _ _ (e.trans he))
   ·rw[p1];simp[ag,h3']
   ·rw [p1] at q2;simp only[ag,Kx,Jr,KR] at q2;simp only[Array.toList_push] at q1;by_cases hlt:i<L.length
    ·rw [Jh vz] at q1;rw[Jh (by simpa using hlt)] at q2;exact h4 i e p q1 q2
    ·rw [Jm vz] at q1;rw[Jm vg] at q2;simp only[Je] at q2
     have:i-L.length=0:=by
      cases hj:i-L.length with
      |zero=>rfl
      |succ j=>rw[hj] at q2;simp at q2
     rw[this] at q2;rw[hlen,this] at q1;simp at q1 q2;subst q1;subst q2;exact hd
 |some i =>
   obtain⟨p1,d0,p2⟩:=Zx L k d hi;have hlt:i<L.length:=(Jb.1 p2).1;have e2:es.toList[i]?=some es.toList[i]:=Ja vz
   have hkey:es.toList[i].key=enc k:=by
    have:=congrArg (fun l=>l[i]?) h3';simp only[Jd,e2,p2,Jw,K7.injEq] at this;exact this
   rw[hi,Kt,e2] at hf
   have hm:∀e∈es.toList,es[i]?=some e->enc k=e.key:=fun e _ he=>by
    have:es.toList[i]?=some e:=by simpa using he
    rw[e2] at this;simp only[K7.injEq] at this;rw[<-this,hkey]
   refine⟨es.modify i fun e=>{ e with key:=enc k,val:=v },clock,?_,stamped_modify h2 i _ (fun _ _=>rfl) (fun e h1 h2=>hm e h1 h2),?_,fun j e p q1 q2=>?_⟩
   ·have e1:((es[i]?).map (·.key)).getD (enc k) = enc k:=by
     have:es[i]?=some es.toList[i]:=vv;rw[this];exact hkey
    unfold Instr.mapUpdate;simp only[Sem.run_bind,run_underlying ht,Result.andThen,Go.MapKept.run_getObj_map h1,hk.check,hf,Jw,e1,hk.stays,Go.MapKept.run_setObj_map _ h1]
   ·rw [modify_keys i _ (fun e he=>by
     have h':es.toList[i]?=some e:=by simpa using he
     exact hm e (K2 h') he),h3',p1]
    have hs:(L.set i (k,d)).map (·.1)=L.map (·.1):=by
     rw[Uc];apply Ke
     intro j;rw[JR];split
     ·rename_i hij;subst hij;rw[if_pos (by simpa using hlt),Jd,p2];rfl
     ·rfl
    rw[<-hs];simp only[ag,Uo];rfl
   ·rw [p1] at q2;by_cases hij:i=j
    ·subst hij;have q1':(es.modify i fun e=>{ e with key:=enc k,val:=v })[i]?=some e:=by rw[<-Kp];exact q1
     rw[KZ,if_pos rfl] at q1';have e2':es[i]?=some es.toList[i]:=vv;rw[e2'] at q1';simp at q1';subst q1';simp[ag,JR,hlt] at q2;subst q2;exact hd
    ·have q1':(es.modify i fun e=>{ e with key:=enc k,val:=v })[j]? = some e:=by rw [<-Kp];exact q1
     rw[KZ,if_neg hij] at q1';refine h4 j e p (by simpa using q1') ?_;simpa [ag,JR,hij] using q2
theorem EZ {O:Org} (hg:MapsD.At c g O.w w β hp) (hL:(b,L) ∈ g) (h1:Stamped es clock) (h2:es.toList.map (·.key) = L'.map (·.1)) (h3:∀(i:Nat) (e:MapEntry) (p:Value × DV),es.toList[i]? = some e->L'[i]? = some p->RelD w β hp p.2 e.val):
 Up w { w with heap:=w.heap.setIfInBounds b (.map es clock) }/\(∀{w0 β0 hp0},Evo w0 β0 hp0 w β hp->w0=O.w->Evo w0 β0 hp0 { w with heap:=w.heap.setIfInBounds b (.map es clock) } β hp)/\MapsD.At c (g.map fun p=>if p.1=b then (b,L') else p) O.w { w with heap:=w.heap.setIfInBounds b (.map es clock) } β hp:=by
 obtain⟨hb,h⟩:=hg.1.2 _ hL;obtain⟨es0,clock0,q,_⟩:=h.at_;obtain⟨s1,s2⟩:=Go.MapKept.heap_set (o':=.map es clock) q;have hgr:w.grownBy { w with heap:=w.heap.setIfInBounds b (.map es clock) } (some b):=⟨rfl,rfl,rfl,vv,fun i hi hne=>s2 i (fun e=>hne (by rw[e]))⟩
 have hr:∀r,some b=some r->O.w.heap.size<=r/\∃o:Obj,w.heap[r]?=some o/\o.isCells=false:=fun r e=>by cases e;exact⟨hb,_,q,rfl⟩
 have hu:Up w { w with heap:=w.heap.setIfInBounds b (.map es clock) }:=Up.grown hgr fun r e=>(hr r e).2;refine⟨hu,fun {w0 β0 hp0} ev e=>?_,⟨⟨?_,fun p hp=>?_⟩,hg.2.trans (hu.toC _ _)⟩⟩
 ·subst e;exact ev.grown hgr hr
 ·have e:(g.map fun p=>if p.1 = b then (b,L') else p).map (·.1) = g.map (·.1):=by
   rw[Uo];refine List.map_congr_left fun p _=>?_;simp only[Function.comp];split
   ·rename_i he;exact he.symm
   ·rfl
  rw[e];exact hg.1.1
 ·obtain ⟨q',hq',rfl⟩:=J4.1 hp;split
  ·exact⟨hb,es,clock,s1,h1,h2,fun i e p q1 q2=>(h3 i e p q1 q2).up hu⟩
  ·rename_i he;obtain⟨k1,k2⟩:=hg.1.2 q' hq';exact⟨k1,k2.go (hu.toC _ _) (s2 _ he)⟩
theorem fG{κ:Type}[DecidableEq κ]{enc:κ->Value}{c:bN}{o:Oper}{K:St->MapsD->Prop}{g:MapsD}{m x y:Operand}{b:Nat}{L:List (κ×DV)}{k:κ}(hop:o.op=.mapUpdate t m x y)(hf:S.fits o.dst=true)(ht:P.underlying t=some (.map kt et))(hk:KeyT P kt enc)(hm:Qn true (S.ev m)=.pv (.lit (.map (some b))))(hL:(b,ag enc L)∈g)(hx:∀(w:World) (β:Map) (hp:Qb) (v:Value),RelD w β hp (Qn true (S.ev x)) v->v=enc k)(hK:K (S.put o.dst (aw o.guard true (.tup []))) (g.map fun p=>if p.1=b then (b,ag enc (aR L k (Qn true (S.ev y)))) else p)):fp P (MapsIn c) o K S g:=fun O β a w hs=>by
 obtain⟨h1,h2⟩:=hs.g.1.2 _ hL;have em:=fM hs m;rw[hm] at em;have ex:=hx _ _ _ _ (fM hs x);have ey:=fM hs y;obtain⟨es',clock',r1,r2,r3,r4⟩:=Zy ht hk h2 k ey;obtain⟨u1,u2,u3⟩:=EZ (L':=ag enc (aR L k (Qn true (S.ev y)))) hs.g hL r2 r3 r4;refine⟨undef,_,.inr ⟨?_,rfl⟩,β,_,_,hs.put u1 (u2 hs.evo rfl) hf (QU (.tup [] #[] rfl vv)) u3,hK⟩;simp only[execOp,hop,Qk em,ex];simp[r1,Result.andThen]
end Go.V
namespace Go.V
variable {P:Program} {γ:Type} {Γ:γ->World->World->Map->Qb->Prop} {ops:Array Oper}
def eI(ops:Array Oper)(i:Nat):List Nat:=match ops[i]? with|some o=>(o.after.toList.filter fun e=>Region.binds .any e).map (·.on)|none=>[]
def jU(ops:Array Oper):Nat->Nat->List Nat
 |0,_=>[]
 |f+1,i=>eI ops i++(eI ops i).flatMap (jU ops f)
def xx(ops:Array Oper)(k f:Nat):Bool:=
 decide (k<ops.size)&&(JA ops.size).all (fun i=>(eI ops i).all fun j=>decide (j<i)) &&
 (JA k).all (fun i=>(jU ops f k).contains i) &&
 (JA ops.size).all fun j=>decide (j<=k)||((jU ops f j).contains k&&match ops[j]? with|some o=>o.guard.isNone|none=>false)
structure SplitOk(ops:Array Oper)(k f:Nat):Prop where
 lt:k<ops.size
 back:∀i,i<ops.size->∀j∈eI ops i,j<i
 pre:∀i,i<k->i∈jU ops f k
 post:∀j,k<j->j<ops.size->k∈jU ops f j/\∃o,ops[j]?=some o/\o.guard=none
theorem Zz(h:xx ops k f=true):SplitOk ops k f:=by
 simp only[xx,Jp,decide_eq_true_eq] at h;obtain⟨⟨⟨h1,h2⟩,h3⟩,h4⟩:=h;refine⟨h1,fun i hi j hj=>?_,fun i hi=>?_,fun j hj hlt=>?_⟩
 ·have:=JZ.1 (JZ.1 h2 i (JS.2 hi)) j hj;simpa using this
 ·have:=JZ.1 h3 i (JS.2 hi);simpa using this
 ·have:=JZ.1 h4 j (JS.2 hlt);simp only[J3,decide_eq_true_eq,Jp] at this;rcases this with this|⟨e1,e2⟩
  ·omega
  ·refine ⟨by simpa using e1,ops[j],JE hlt,?_⟩;rw[JE hlt] at e2;simpa using e2
def ClosedL(ops:Array Oper)(L:Array Bool):Prop:=∀i,L.getD i false=true->∀j∈eI ops i,L.getD j false=true
theorem sW (hc:ClosedL ops L):∀(f i:Nat),(∀j ∈ eI ops i,L.getD j false = true)->∀j ∈ jU ops f i,L.getD j false = true
 |0,_,_,j,hj=>by simp[jU] at hj
 |f + 1,i,h,j,hj=>by
   simp only[jU,Ki,List.mem_flatMap] at hj;rcases hj with hj|⟨m,hm,hj⟩
   ·exact h j hj
   ·exact sW hc f m (hc m (h m hm)) j hj
theorem mem_ready':i∈Region.ready .any ops L ↔ i<ops.size/\L.getD i true=false/\∀j∈eI ops i,L.getD j false=true:=by
 rw[mem_ready];constructor
 ·rintro ⟨h1,o,ho,h2⟩;refine⟨(Jf.1 ho).1,h1,fun j hj=>?_⟩;simp only[eI,ho,J4,Uj] at hj;obtain⟨e,⟨he,hb⟩,rfl⟩:=hj;exact h2 e (by simpa using he) hb
 ·rintro ⟨h1,h2,h3⟩;refine⟨h2,ops[i],JE h1,fun e he hb=>h3 _ ?_⟩;simp only[eI,JE h1,J4,Uj];exact⟨e,⟨by simpa using he,hb⟩,rfl⟩
theorem ClosedL.set(hc:ClosedL ops L)(hi:i<L.size)(hp:∀j∈eI ops i,L.getD j false=true):ClosedL ops (L.setIfInBounds i true):=fun m hm j hj=>by
 by_cases e:i=m
 ·subst e;exact getD_set_true (hp j hj)
 ·rw [getD_set_ne false e] at hm;exact getD_set_true (hc m hm j hj)
theorem ZA (hback:∀i,i < ops.size->∀j ∈ eI ops i,j < i) (hs:L.size = ops.size) (hn:n<=ops.size) (h:∀i,i < n->i ∉ Region.ready .any ops L):∀i,i < n->L.getD i false = true:=by
 intro i;induction i using KA with
 |_ i ih =>
   intro hlt;cases hl:L.getD i false with
   |true=>rfl
   |false =>
     refine absurd (mem_ready'.2 ⟨vz,?_,fun j hj=>?_⟩) (h i hlt)
     ·have:i < L.size:=vz;simpa [this] using hl
     ·have:=hback i vz j hj;exact ih j this vz
theorem xy(hi:i<k):((ops.toList.take k).toArray)[i]?=ops[i]?:=by
 simp[hi]
theorem ZB(hi:i<k):eI (ops.toList.take k).toArray i=eI ops i:=by unfold eI;rw[xy hi]
theorem E1 {o:Oper} (h:∀a w,K a w->K' a w) (hq:∀e a w,e ≠ .normal->Q e a w->Q' e a w) (hh:o.wp P a w K Q):o.wp P a w K' Q':=by
 unfold Oper.wp at *;generalize (execOp a.eval o).run P w=r at *;cases r with
 |ok n w' =>
   cases n<;>simp only[Oper.upon] at hh |- <;>
    first|exact h _ _ hh|exact Calls.mono hh (fun e w'' he=>by cases e<;>first|exact h _ _ he|exact hq _ _ _ vv he|exact(let ⟨a1,w1,h1⟩:=(he:LetsOut Q);(⟨a1,w1,hq _ _ _ vv h1⟩:LetsOut Q')))|exact Rows.mono hh (fun _ _ he=>h _ _ he)
 |halt x w'=>cases x<;>simp only[Oper.upon] at hh |-<;>first|exact hq _ _ _ vv hh|exact hh
theorem E2:∀(n:Nat) (L:Array Bool) (a:Act) (w:World),wpAny P .any ops Q n L a w->wpAny P .any ops Q (n+1) L a w
 |0,L,a,w,h=>⟨fun _=>h.2,fun i hi=>by rw[h.1] at hi;(cases hi)⟩
 |n+1,L,a,w,h=>⟨h.1,fun i hi=>wpOp_mono (fun a w=>E2 n _ a w) (h.2 i hi)⟩
theorem E3(h:wpAny P .any ops Q n L a w):∀m,wpAny P .any ops Q (m+n) L a w
 |0=>by rw[Ju];exact h
 |m+1=>by rw[show m+1+n=(m+n)+1 by omega];exact E2 _ _ _ _ (E3 h m)
theorem ZC (sp:SplitOk ops k f) (hg:∀i,i < k->∀o,ops[i]? = some o->o.guard = none\/∃j b,o.guard = some (j,b)/\j < k) (hq1:∀e a w,Q1 e a w->e = .normal) (hN:∀(L:Array Bool),L.size = ops.size->(∀i,L.getD i false = decide (i < k))->∀a w,Q1 .normal a w->wpOp P ops Q k (wpAny P .any ops Q m (L.setIfInBounds k true)) a w):
 ∀(fuel:Nat) (L L1:Array Bool) (a:Act) (w:World),L.size = ops.size->L1.size = k->(∀i,i < k->L1.getD i false = L.getD i false)->ClosedL ops L->(∀i,k<=i->L.getD i false = false) ->
   wpAny P .any (ops.toList.take k).toArray Q1 fuel L1 a w->wpAny P .any ops Q (fuel+(m+1)) L a w:=by
 have hsz:(ops.toList.take k).toArray.size=k:=by have:=sp.lt;simp;omega
 have rd:∀(L L1:Array Bool),L.size = ops.size      -> L1.size = k->(∀i,i < k->L1.getD i false = L.getD i false)->∀i,i < k->(i ∈ Region.ready .any (ops.toList.take k).toArray L1 ↔ i ∈ Region.ready .any ops L):=by
  intro L L1 h1 h2 h3 i hi;have hlt:i<ops.size:=KX hi sp.lt;rw[mem_ready',mem_ready',hsz,ZB hi]
  have e1:L1.getD i true = L1.getD i false:=by     have:i < L1.size:=vz
                                                   simp[this]
  have e2:L.getD i true = L.getD i false:=by     have:i < L.size:=vz
                                                 simp[this]
  rw[e1,e2,h3 i hi];constructor
  ·rintro⟨_,a,b⟩;exact⟨hlt,a,fun j hj=>by rw[<-h3 j (KX (sp.back i hlt j hj) hi)];exact b j hj⟩
  ·rintro⟨_,a,b⟩;exact⟨hi,a,fun j hj=>by rw[h3 j (KX (sp.back i hlt j hj) hi)];exact b j hj⟩
 have fin:∀(x:Nat) (L L1:Array Bool) (a:Act) (w:World),L.size = ops.size->L1.size = k->(∀i,i < k->L1.getD i false = L.getD i false)->ClosedL ops L->(∀i,k<=i->L.getD i false = false) ->
  Region.ready .any (ops.toList.take k).toArray L1=[]->Q1 .normal a w->(∀i,i<ops.size->i∈Region.ready .any ops L->i=k)/\k∈Region.ready .any ops L/\wpOp P ops Q k (wpAny P .any ops Q m (L.setIfInBounds k true)) a w:=by
  intro x L L1 a w h1 h2 h3 h4 h5 h6 h7
  have hall:∀i,i<k->L.getD i false=true:=ZA (n:=k) sp.back h1 (Uq sp.lt) fun i hi hm=>by
   have:=(rd L L1 h1 h2 h3 i hi).2 hm;rw[h6] at this;cases this
  have hL:∀i,L.getD i false=decide (i<k):=fun i=>by
   by_cases hi:i<k
   ·rw[hall i hi,decide_eq_true hi]
   ·rw[h5 i vz,decide_eq_false hi]
  have hk:k∈Region.ready .any ops L:=by
   have hks:k<L.size:=by rw[h1];exact sp.lt
   refine mem_ready'.2 ⟨sp.lt,?_,fun j hj=>hall j (sp.back k sp.lt j hj)⟩;have h':=h5 k (Jo _);simpa [hks] using h'
  refine⟨fun i hi hm=>?_,hk,hN L h1 hL a w h7⟩;obtain⟨r1,r2,r3⟩:=mem_ready'.1 hm;have hi':i<L.size:=vz;have hu:L.getD i false=false:=by simpa [hi'] using r2
  rw[hL] at hu;by_cases hik:i=k
  ·exact hik
  ·have hki:k < i:=by
    have:¬i<k:=by simpa using hu
    omega
   have:=sW h4 f i r3 k (sp.post i hki hi).1;rw[hL] at this;simp at this
 have step:∀(n:Nat) (L L1:Array Bool) (a:Act) (w:World),n=m->L.size=ops.size->L1.size=k->(∀i,i<k->L1.getD i false=L.getD i false)->ClosedL ops L->(∀i,k<=i->L.getD i false=false) ->
  Region.ready .any (ops.toList.take k).toArray L1=[]->Q1 .normal a w->wpAny P .any ops Q (n+1) L a w:=by
  intro n L L1 a w e h1 h2 h3 h4 h5 h6 h7;subst e;obtain⟨g1,g2,g3⟩:=fin 0 L L1 a w h1 h2 h3 h4 h5 h6 h7;refine⟨fun h=>by rw[h] at g2;(cases g2),fun i hi=>?_⟩;have:=g1 i (mem_ready'.1 hi).1 hi;subst this;exact g3
 intro fuel;induction fuel with
 |zero =>
   intro L L1 a w h1 h2 h3 h4 h5 h;rw[Ju];exact step m L L1 a w rfl h1 h2 h3 h4 h5 h.1 h.2
 |succ fuel ih =>
   intro L L1 a w h1 h2 h3 h4 h5 h;by_cases hr:Region.ready .any (ops.toList.take k).toArray L1=[]
   ·exact E3 (step m L L1 a w rfl h1 h2 h3 h4 h5 hr (h.1 hr)) (fuel+1)
   ·obtain ⟨j,hj⟩:=List.exists_mem_of_ne_nil _ hr;have hjk:j<k:=by have:=(mem_ready'.1 hj).1;rw[hsz] at this;exact this
    have hju:L.getD j false=false:=by
     have hj1:j<L1.size:=vz;have:=(mem_ready'.1 hj).2.1;rw[<-h3 j hjk];simpa [hj1] using this
    rw[show fuel+1+(m+1)=(fuel+(m+1))+1 by omega];refine⟨fun hn=>?_,fun i hi=>?_⟩
    ·have:=(rd L L1 h1 h2 h3 j hjk).1 hj;rw[hn] at this;cases this
    ·obtain ⟨r1,r2,r3⟩:=mem_ready'.1 hi
     have hik:i<k:=by
      by_cases hlt:i<k
      ·exact hlt
      ·exfalso;by_cases he:i=k
       ·subst he;have:=sW h4 f i r3 j (sp.pre j hjk);rw[hju] at this;cases this
       ·have:=sW h4 f i r3 k (sp.post i vz r1).1;rw[h5 k (Jo _)] at this;cases this
     have hi1:=h.2 i ((rd L L1 h1 h2 h3 i hik).2 hi);have ho:ops[i]?=some ops[i]:=JE r1;have hiL:i<L.size:=vz;have hiL1:i<L1.size:=vz;unfold wpOp at hi1 |-;rw[xy hik,ho] at hi1;rw[ho];dsimp only at hi1 |-
     have hw:Region.wanted ops[i] (yielded (ops.toList.take k).toArray a.tmps)=Region.wanted ops[i] (yielded ops a.tmps):=by
      unfold Region.wanted;rcases hg i hik _ ho with e|⟨j',b,e,hj'⟩
      ·rw[e]
      ·rw[e];simp only[yielded,xy hj']
     rw[hw] at hi1
     have go:∀a w,wpAny P .any (ops.toList.take k).toArray Q1 fuel (L1.setIfInBounds i true) a w->wpAny P .any ops Q (fuel+(m+1)) (L.setIfInBounds i true) a w:=fun a w hh=>
      ih (L.setIfInBounds i true) (L1.setIfInBounds i true) a w (by simpa using h1) (by simpa using h2) (fun x hx=>by
       by_cases e:i=x
       ·subst e;simp[hiL,hiL1]
       ·rw[getD_set_ne false e,getD_set_ne false e]; exact h3 x hx) (h4.set hiL r3) (fun x hx=>by rw[getD_set_ne false vz]; exact h5 x hx) hh
     split at hi1
     ·rename_i hww;rw[if_pos hww];rcases hi1 with hi1|⟨e1,a1,w1,e2⟩
      ·exact .inl (E1 go (fun e a w hne hq=>absurd (hq1 e a w hq) hne) hi1)
      ·exact absurd (hq1 _ _ _ e2) vv
     ·rename_i hww;rw[if_neg hww];exact go _ _ hi1
def nj:Oper:={ dst:=none,op:=.move (.const (.bool true)),type:=0,pos := "", after:=#[],guard:=none }
def dc(ops:Array Oper)(k:Nat):Array Oper:=(JD (k+1) nj++ops.toList.drop (k+1)).toArray
theorem E4(h:k<ops.size):(dc ops k).size=ops.size:=by simp[dc];omega
theorem E5(h:k<i):(dc ops k)[i]?=ops[i]?:=by
 simp only[dc,Kq];grind
theorem E6(h:i<=k):(dc ops k)[i]?=some nj:=by
 simp only[dc,Kq];grind
theorem ZD(sp:SplitOk ops k f):∀(fuel:Nat) (L:Array Bool) (a:Act) (w:World),L.size=ops.size->(∀i,i<=k->L.getD i false=true)->wpAny P .any (dc ops k) Q fuel L a w->wpAny P .any ops Q fuel L a w:=by
 have rd:∀(L:Array Bool),L.size=ops.size->(∀i,i<=k->L.getD i false=true)->Region.ready .any (dc ops k) L=Region.ready .any ops L:=by
  intro L hL h;unfold Region.ready;rw[E4 sp.lt];refine List.filter_congr fun i hi=>?_;by_cases hik:i<=k
  ·have hiL:i < L.size:=by rw [hL];exact JS.1 hi
   have:=h i hik;have e:L.getD i true=true:=by simpa [hiL] using this
   simp[e]
  ·rw[E5 vz]
 intro fuel;induction fuel with
 |zero=>intro L a w h1 h2 h;exact⟨by rw[<-rd L h1 h2];exact h.1,h.2⟩
 |succ fuel ih =>
   intro L a w h1 h2 h;have e:=rd L h1 h2;refine⟨fun hr=>h.1 (by rw[e];exact hr),fun i hi=>?_⟩;have hi1:=h.2 i (by rw[e];exact hi);obtain⟨r1,r2,r3⟩:=mem_ready'.1 hi
   have hik:k<i:=by
    by_cases hlt:k<i
    ·exact hlt
    ·have:=h2 i vz;have hiL:i<L.size:=vz;have hx:L.getD i true=true:=by simpa [hiL] using this
     rw[hx] at r2;cases r2
   obtain⟨-,o,ho,hg⟩:=sp.post i hik r1;unfold wpOp at hi1 |-;rw[E5 hik,ho] at hi1;rw[ho];dsimp only at hi1 |-;have hw:∀y,Region.wanted o y=true:=fun y=>by simp[Region.wanted,hg]
   rw[hw,if_pos rfl] at hi1 |-
   have go:∀a w,wpAny P .any (dc ops k) Q fuel (L.setIfInBounds i true) a w->wpAny P .any ops Q fuel (L.setIfInBounds i true) a w:=fun a w hh=>
    ih _ a w (by simpa using h1) (fun x hx=>by rw[getD_set_ne false vz];exact h2 x hx) hh
   exact hi1.imp (fun hi1=>E1 go (fun e a w _ hq=>hq) hi1) id
theorem E7(S:St):jM P all S nj S ([],false):=by
 refine⟨rfl,true,rfl,.inr (.inl ⟨.bool true,S.hp,rfl,rfl,rfl,rfl,rfl⟩)⟩
theorem ZE{L:Array Bool}(h:k<n)(hL:∀i,i<=k->L.getD i false=true):(JA n).countP (fun i=>!L.getD i false)<=n-k-1:=by
 have e:JA n=JA (k+1)++J0 (k+1) (n-k-1):=by
  have e:=Kv (s:=0) (m:=k+1) (n:=n-k-1);rw[Ju] at e;rw[Kg,Kg,e];congr 1;omega
 rw[e,List.countP_append]
 have h0:(JA (k+1)).countP (fun i=>!L.getD i false)=0:=by
  rw[List.countP_eq_zero];intro i hi;have:=hL i (by have:=JS.1 hi;omega);simp only[this];decide
 have h1:=Ko (p:=fun i=>!L.getD i false) (l:=J0 (k+1) (n-k-1));grind
theorem ZF(sp:SplitOk ops k f)(hB:iW (dc ops k)=true)(hK:∀β S a w,Sim O β S a w->K S->Q .normal a w)(h:vdr P (dc ops k).toList (ops.toList.drop (k+1)) (JD (k+1) ([],false)) K S)(hL:L.size=ops.size)(hLk:∀i,L.getD i false=decide (i<=k))(hs:Sim O β S a w):wpAny P .any ops Q (ops.size-k-1) L a w:=by
 obtain⟨T,F,t1,t2,t3,t4⟩:=o5 (ops.toList.drop (k+1)) (JD (k+1) nj) (JD (k+1) ([],false)) S rfl vv h;simp only[Jk] at t2 t4;have hF:∀i,i<=k->F i=([],false):=fun i hi=>t1 i _ (by rw[KP,if_pos vz]);have hsz:=E4 sp.lt;have hlist:(dc ops k).toList.length=ops.size:=by rw[<-hsz];simp
 obtain⟨T',hT'⟩:∃T':Nat->St,T'=fun j=>if j<=k then S else T j:=⟨_,rfl⟩
 have e1:∀j,j<=k->T' j=S:=fun j hj=>by rw[hT'];exact if_pos hj
 have e2:∀j,k<j->T' j=T j:=fun j hj=>by rw[hT'];exact if_neg vz
 have hsteps:Steps P (dc ops k) T' F:=⟨fun j hj=>by
  by_cases hjk:j<=k
  ·refine ⟨nj,E6 hjk,?_,fun i _ hc=>?_⟩
   ·rw [e1 j hjk,hF j hjk];by_cases hj1:j+1<=k
    ·rw[e1 _ hj1];exact E7 S
    ·rw[e2 _ vz,show j+1=k+1 by omega,t2];exact E7 S
   ·rw [hF j hjk] at hc;obtain⟨_,x,_,hx⟩:=hc;simp at hx
  ·obtain ⟨o,g1,g2,g3⟩:=t4 j vz (by simp only [Ji,Jk,Js,Array.length_toList];omega);refine⟨o,by simp only[dc,Kq];exact g1,?_,g3⟩;rw[e2 j vz,e2 (j+1) vz]
   exact g2,hB⟩
 refine ZD sp _ _ _ _ hL (fun i hi=>by rw[hLk,decide_eq_true hi]) ?_;refine wM (O:=O) hsteps (fun β a w hk=>hK β _ a w hk ?_) _ L a w β S ?_ hs ?_
 ·rw [hsz,e2 _ sp.lt,<-hlist];exact t3
 ·rw [hsz];exact ZE sp.lt fun i hi=>by rw[hLk,decide_eq_true hi]
 ·have k1:T' (k + 1) = S:=by rw [e2 _ vz,t2]
  have k0:T' 0=S:=e1 0 (JF _)
  refine⟨hL.trans hsz.symm,by rw[k0],by rw[k0],by rw[k0],fun i o ho hl e he=>?_,fun t=>⟨k+1,by rw[hsz]; exact sp.lt,by rw[k1],fun i hi _=>by rw[hLk,decide_eq_true vz],fun i hi _=>by rw[hLk,decide_eq_false vz]⟩,
   fun t=>⟨k+1,by rw[hsz]; exact sp.lt,by rw[k1],fun i hi _=>by rw[hLk,decide_eq_true vz],fun i hi _ _=>by rw[hLk,decide_eq_false vz]⟩⟩
  rw[hLk] at hl;rw[E6 (by simpa using hl)] at ho;cases ho;simp[nj] at he
def pF(P:Program)(ops:Array Oper)(K:St->Prop)(S:St):Prop:=∀(O:Org) (β:Map) (a:Act) (w:World),Sim O β S a w->wpAny P .any ops (du O fun e S=>e=.normal/\K S) ops.size (Jq ops.size false) a { w with drawn:=w.drawn+1 }
theorem N9(H0:List Nat)(segs:List Seg)(hok:px ops H0 segs=true)(h:an P ops.toList (pick ops.toList H0) (vsp P ops.toList segs K) S):pF P ops K S:=fun _ _ _ _ hs=>
 xe (Q:=fun e S=>e=.normal/\K S) H0 segs hok (by simpa using h) hs
theorem cU (hB:iW ops = true) (h:vdr P ops.toList ops.toList [] K S):pF P ops K S:=by
 intro O β a w hs;obtain⟨T,F,_,h2,h3,h4⟩:=o5 ops.toList [] [] S rfl rfl h;simp only[Jg] at h2
 have hsteps:Steps P ops T F:=⟨fun j hj=>by
  obtain⟨o,e1,e2,e3⟩:=h4 j (JF _) (by simpa using hj)
  exact⟨o,by simpa using e1,e2,e3⟩,hB⟩
 have hs':Sim O β (T 0) a { w with drawn:=w.drawn+1 }:=by
  rw[h2];have e:Evo w β S.hp w.drew β S.hp:=ia w β S.hp;exact⟨hs.defers,hs.size,fun t=>(hs.tm t).mono e,hs.heap.drew,hs.evo.trans e,hs.base⟩
 refine wM (O:=O) hsteps (fun β a w hk=>⟨β,_,hk,rfl,by simpa using h3⟩) ops.size (Jq ops.size false) a _ β (T 0) ?_ hs' ?_
 ·have:=Ko (p:=fun i=>!(Jq ops.size false).getD i false) (l:=JA ops.size);simpa using this
 ·have hfalse:∀i,(Jq ops.size false).getD i false = false:=fun i=>by
   by_cases hi:i<ops.size
   ·simp[hi]
   ·simp[hi]
  refine⟨vv,rfl,rfl,rfl,fun i o _ hl=>?_,fun t=>⟨0,JF _,rfl,fun i hi=>absurd hi (Kj _),fun i _ _=>hfalse i⟩,fun k=>⟨0,JF _,rfl,fun i hi=>absurd hi (Kj _),fun i _ _ _=>hfalse i⟩⟩;rw[hfalse] at hl;cases hl
def ZG(ops:Array Oper)(k:Nat):Bool:=(JA k).all fun i=>match ops[i]? with
 |some o=>(match o.guard with|none=>true|some (j,_)=>decide (j<k))
 |none=>true
def sX(P:Program)(ops:Array Oper)(k:Nat)(K:St->Prop)(S:St):Prop:=vdr P (dc ops k).toList (ops.toList.drop (k+1)) (JD (k+1) ([],false)) K S
theorem VWpG.drawn (hΓ:∀ g,Stable (Γ g)) {id k f:Nat} (hm:P.follows .mixedOrders = true) (hs:xx ops k f = true) (hgd:ZG ops k = true) (hB:iW (dc ops k) = true) (hk':ops.toList[k]? = some o) (h:pF P (ops.toList.take k).toArray (fun S1=>QJ ops.toList S1 o = some true /\
  fp P Γ o (fun S2 g2=>sX P ops k (fun S3=>Q .normal S3 g2) S2.reb) S1 g) S.reb):VWpG P Γ (.region id ops true) Q S g:=fun O β a w hw=>by
 have sp:=Zz hs;have hk:ops[k]?=some o:=by simpa using hk'
 have hg:∀i,i<k->∀o,ops[i]?=some o->o.guard=none\/∃j b,o.guard=some (j,b)/\j<k:=fun i hi o ho=>by
  have:=JZ.1 hgd i (JS.2 hi);rw[ho] at this;dsimp only at this;cases hgo:o.guard with
  |none=>exact .inl rfl
  |some jb=>obtain⟨j,b⟩:=jb;rw[hgo] at this;exact .inr ⟨j,b,rfl,by simpa using this⟩
 have hsz:(ops.toList.take k).toArray.size=k:=by have:=sp.lt;simp;omega
 refine wp_region_any hm ?_;have h1:=h _ _ _ _ hw.reb;rw[hsz] at h1;have e:ops.size=k+((ops.size-k-1)+1):=by have:=sp.lt;omega
 have hfalse:∀n i,(Jq n false).getD i false=false:=fun n i=>by
  by_cases hi:i<n<;>simp[hi]
 have key:=ZC (P:=P) (Q:=pD Γ O Q) (m:=ops.size-k-1) sp hg (fun e a w hq=>by obtain⟨_,_,_,hq,_⟩:=hq;exact hq) (fun L hL hLk a1 w1 hq=>?_) k (Jq ops.size false) (Jq k false) a { w with drawn:=w.drawn+1 } vv vv (fun i hi=>by rw[hfalse,hfalse]) (fun i hi=>by rw[hfalse] at hi;cases hi) (fun i _=>hfalse _ i) h1
 ·rw [<-e] at key;exact key
 ·obtain ⟨β1,S1,hs1,-,hg1,hd⟩:=hq;have hw1:=hw.on (hΓ g) hs1;unfold wpOp;rw[hk];dsimp only;rw[sV hw1 hg1,if_pos rfl];refine .inl ?_;obtain⟨v,w',hrun,β',S',g',h2,h3⟩:=hd O β1 a1 w1 hw1
  have nxt:wpAny P .any ops (pD Γ O Q) (ops.size-k-1) (L.setIfInBounds k true) (a1.put o.dst v) w':=by
   refine ZF (O:=⟨w',β',S'.hp,(a1.put o.dst v).defers⟩) sp hB (K:=fun S3=>Q .normal S3 g') (fun β3 S3 a3 w3 hs3 hq3=>⟨β3,S3,g',h2.on (hΓ g') hs3,hq3⟩) h3 (by simpa using hL) (fun i=>?_) h2.reb;by_cases hik:k=i
   ·subst hik;have:k<L.size:=by rw[hL];exact sp.lt
    simp[this]
   ·rw [getD_set_ne false hik,hLk];congr 1;exact propext ⟨fun h=>Uq h,fun h=>by omega⟩
  unfold Oper.wp;rcases hrun with hrun|⟨hrun,rfl⟩
  ·rw[hrun];exact nxt
  ·rw[hrun];exact nxt
end Go.V
namespace Go.V
variable {P:Program}
structure VCallsG(P:Program)(g:FuncId)(args:List DV)(h:Qb)(gh:MapsD)(R:DV->Qb->MapsD->Prop):Prop where
 fn:∃ fn,P.funcs[g]?=some fn/\(fn.name == "runtime.NumGoroutine")=false/\fn.body.isNone=false
 run:∀(O:Org) (w:World) (β:Map) (vs:Array Value),Evo O.w O.β O.hp w β h->HeapRel w β h->RelL w β h args vs->EW gh O.w w β h ->
  Calls P g vs w fun e w'=>∃v r h' β' gh',e=.returned v/\Evo O.w O.β O.hp w' β' h'/\HeapRel w' β' h'/\RelD w' β' h' r v/\MapsD.At (w,β,h) gh' O.w w' β' h'/\R r h' gh'
theorem VCallsG.mono(c:VCallsG P g args h gh R)(hr:∀r h' gh',R r h' gh'->R' r h' gh'):VCallsG P g args h gh R':=
 ⟨c.fn,fun O w β vs a1 a2 a3 a4=>(c.run O w β vs a1 a2 a3 a4).mono fun _ _ ⟨v,r,h',β',gh',k1,k2,k3,k4,k5,k6⟩=>⟨v,r,h',β',gh',k1,k2,k3,k4,k5,hr _ _ _ k6⟩⟩
theorem kN (hG:QJ ops.toList S o = some true) (hf:S.fits o.dst = true) (hc:Qo (fun x=>Qn true (S.ev x)) o.op = some (f,args)) (hcalls:VCallsG P f args S.hp g R) (hK:∀r h' g',R r h' g'->K ((S.at h').put o.dst (aw o.guard true r)) g'):OpG P (MapsIn c) ops o K S g:=fun n Q next O β a w hs hn=>by
 rw[sV hs hG,if_pos rfl];have hnd:=ES hc;have hev:∀x,RelD w β S.hp (Qn true (S.ev x)) (a.eval x):=fM hs;unfold Qo at hc;split at hc
 ·rename_i cl hop;split at hc
  ·rename_i fo hcal;split at hc
   ·rename_i g' first cap hfn
    simp at hc;obtain⟨rfl,rfl⟩:=hc;have hf':RelD w β S.hp ((fun x=>Qn true (S.ev x)) fo) (a.eval fo):=hev fo;rw[hfn] at hf';generalize hv:a.eval fo=fv at hf';cases hf' with
    |fn _ _ _ vs us l1 l2 r1 r2 =>
      have hrel:RelL w β S.hp (first++cl.args.toList.map (fun x=>Qn true (S.ev x))++cap) (vs++cl.args.map a.eval++us):=mR (mR ⟨l1,r1⟩ (oY hev cl.args)) ⟨l2,r2⟩;obtain⟨fn,h1,h2,h3⟩:=hcalls.fn;have h4:=hcalls.run O w β (vs++cl.args.map a.eval++us) hs.evo hs.heap (by simpa using hrel) hs.g.1
      have hrun:(execOp a.eval o).run P w=.ok (.enter g' (vs++cl.args.map a.eval++us)) w:=by
       simp[execOp,hop,resolve,hcal,hv,Deferred.ofValue,invoke,wm h1 h2 h3]
      refine⟨fun _ _=>trivial,?_⟩;rw[Oper.semAt_plain _ _ _ hnd,hrun,Oper.uponIn_enter];refine⟨fun h=>by simp[Fence.wide] at h,CallsIn.mono (F:=wd none) (callsIn_wide.2 h4) ?_⟩;rintro e w' ⟨v,r,h',β',gh',rfl,k1,k2,k3,k4,k5⟩;refine hn β' _ gh' _ w' ?_ (hK r h' gh' k5);refine⟨by rw[w8];exact hs.defers,by rw[py,St.put_nt];exact hs.size,fun t=>?_,by rw[St.put_hp];exact k2,by rw[St.put_hp];exact k1,by rw[St.put_hp];exact⟨k4.1,hs.g.2.trans k4.2⟩⟩;rw[St.put_hp];have hd:=QU (g:=o.guard) k3;cases hdst:o.dst with
      |none=>exact(hs.tm t).monoC k4.2
      |some t0 =>
        have hlt:t0<a.tmps.size:=by rw[hs.size];rw[hdst] at hf;simpa [St.fits] using hf
        simp only[St.put,look,Act.put,St.at];split
        ·rename_i e;subst e;simpa [JC,hlt] using hd
        ·rename_i e;have:=(hs.tm t).monoC k4.2;simpa [JC,Kw,e] using this
   ·simp at hc
  ·simp at hc
 ·simp at hc
def fH (P:Program) (rs:List ResultVar) (R:DV->Qb->MapsD->Prop) (e:Exit) (S:St) (g:MapsD):Prop :=
 match e with
 |.normal|.ret=>match QQ P S rs with
   |some d=>R d S.hp g
   |none=>False
 |_=>False
theorem ZH:fH P rs R .ret S g=gB P rs (fun d h=>R d h g) .ret S:=by
 unfold fH gB;cases QQ P S rs<;>rfl
theorem fF (hf:P.funcs[g]? = some fn) (hb:fn.body = some cd) (hname:(fn.name == "runtime.NumGoroutine") = false) (hn:args.length<=fn.ntmps) (hc:∀ c:bN,VWpG P (MapsIn c) cd (fH P fn.results.toList R) ⟨fn.ntmps,h.length,bj 0 args,h⟩ gh):VCallsG P g args h gh R:=by
 refine⟨⟨fn,hf,hname,by rw[hb];rfl⟩,fun O w β vs he hh ha hg=>?_⟩;refine callsIn_wide.1 (callsIn_of_wp_marks (n:=1) hf hb trivial (wpIn_wide.2 ?_));have hsz:vs.size=args.length:=ha.1.symm
 have hs:SimG (MapsIn (w,β,h) gh) ⟨O.w,O.β,O.hp,[]⟩ β ⟨fn.ntmps,h.length,bj 0 args,h⟩ { tmps:=vs ++ Jq (fn.ntmps - vs.size) undef,defers:=[] } w:=by
  refine⟨rfl,vg,fun t=>?_,hh,he,hg,EvoC.refl w β h⟩;rw[wC,if_pos (JF _),Un];cases ht:args[t]? with
  |none=>exact .any _
  |some d =>
    have hlt:t<vs.size:=by rw[hsz];exact(Jb.1 ht).1
    have e:(vs++Jq (fn.ntmps-vs.size) undef).getD t undef=vs.getD t undef:=by
     simp only[JC];rw[KB hlt]
    show RelD w β h d ((vs++Jq (fn.ntmps-vs.size) undef).getD t undef)
    rw[e];exact ha.2 t d ht
 refine wp_mono (hc (w,β,h) _ β _ w hs) fun e a' w' hq=>?_;obtain⟨β',S',g',hs',hq⟩:=hq
 have key:(∃d,QQ P S' fn.results.toList=some d/\R d S'.hp g')->LeavesInM Fence.wide 1 P fn a'.tmps (fun e w'=>∃v r h' β' gh',e=.returned v/\Evo O.w O.β O.hp w' β' h'/\HeapRel w' β' h'/\RelD w' β' h' r v/\MapsD.At (w,β,h) gh' O.w w' β' h'/\R r h' gh') a'.defers .returning w':=by
  rintro⟨d,hr,hend⟩
  obtain⟨v,r1,r2⟩:=wA (P:=P) (fn:=fn) (d:=d) hs'.reb (by
   have e:cK P S'.reb=cK P S':=by funext r;cases r<;>rfl
   unfold QQ at hr |-
   rw[e]; exact hr)
  have hd0:a'.defers=[]:=hs'.defers;rw[hd0];exact⟨v,r1,v,d,S'.hp,β',g',rfl,hs'.evo,hs'.heap,r2,hs'.g,hend⟩
 unfold fH at hq;cases e with
 |normal =>
   dsimp only at hq;split at hq
   ·rename_i d hd;exact key ⟨d,hd,hq⟩
   ·exact hq.elim
 |ret =>
   dsimp only at hq;split at hq
   ·rename_i d hd;exact key ⟨d,hd,hq⟩
   ·exact hq.elim
 |_=>exact hq.elim
theorem rG(hf:P.funcs[g]?=some fn)(hb:fn.body=some cd)(hname:(fn.name == "runtime.NumGoroutine")=false)(hn:args.length<=fn.ntmps)(hc:∀ c:bN,VWpG P (MapsIn c) cd (fun e S _=>eG P fn.results.toList h.length R e S) ⟨fn.ntmps,h.length,bj 0 args,h⟩ []):VCalls P g args h R:=
 Zu hf hb hname hn fun O β a w hs hd=>wp_mono (hc (w,β,h) O β a w ⟨hd,hs.size,hs.tm,hs.heap,hs.evo,⟨vv,vv⟩,EvoC.refl w β h⟩) fun _ _ _ ⟨β',S',_,h',q⟩=>⟨β',S',⟨h'.size,h'.tm,h'.heap,h'.evo,.inl h'.defers⟩,q⟩
theorem Oc(hf:P.funcs[g]?=some fn)(hb:fn.body=some c)(hname:(fn.name == "runtime.NumGoroutine")=false)(hn:args.length<=fn.ntmps)(hc:∀ c':bN,VWpG P (MapsIn c') c (fH P fn.results.toList fun d h _=>R d h) ⟨fn.ntmps,h.length,bj 0 args,h⟩ []):VCalls P g args h R:=by
 have:=fF (P:=P) (gh:=[]) hf hb hname hn hc;refine⟨fun w β vs hh ha=>.inl ⟨fn,hf,hname,by rw[hb];rfl,?_⟩⟩;refine(this.run ⟨w,β,h,[]⟩ w β vs (Evo.refl w β h) hh ha ⟨vv,vv⟩).mono fun _ _ ⟨v,r,h',β',gh',k1,k2,k3,k4,k5,k6⟩=>⟨v,r,h',β',k1,k2,k3,k4,k6⟩
theorem WeakG.slots (hn:S.nt = S'.nt) (hh:S.hp = S'.hp) (ht:∀p ∈ S'.tm,look S.tm p.1 = p.2\/p.2 = .any):WeakG Γ S g S' g:=fun O β a w hs=>by
 refine⟨β,hs.defers,by rw[<-hn];exact hs.size,fun t=>?_,by rw[<-hh];exact hs.heap,by rw[<-hh];exact hs.evo,by rw[<-hh];exact hs.g⟩
 have key:∀(l:List (Nat × DV)),(∀p ∈ l,look S.tm p.1 = p.2\/p.2 = .any)->RelD w β S.hp (look l t) (a.tmps.getD t undef):=by
  intro l;induction l with
  |nil=>intro _;exact .any _
  |cons p r ih =>
    intro h;simp only[look];split
    ·rename_i e;subst e;rcases h p vv with h|h
     ·rw[<-h];exact hs.tm _
     ·rw[h];exact .any _
    ·exact ih fun q hq=>h q (K3 _ hq)
 rw[<-hh];exact key _ ht
theorem Qr(h:k<hp.length):Qc (hp++r) k=Qc hp k:=by unfold Qc;rw[Jh h]
theorem u5(h:hp.length<=k):Qc (hp++r) k=Qc r (k-hp.length):=by unfold Qc;rw[Jm h]
theorem u0:Qc (hp++r) hp.length=Qc r 0:=by rw[u5 (Jo _),K0]
theorem Qv:(Qm hp k cs).length=hp.length:=by unfold Qm;split<;>simp
theorem CR (h:Qc hp k = some cs'):Qc (Qm hp k cs) k = some cs:=by
 unfold Qc at h;cases hb:hp[k]? with
 |none=>rw[hb] at h;cases h
 |some B =>
   rw[hb] at h;dsimp only at h;split at h
   ·rename_i hl;have hlt:=(Jb.1 hb).1;unfold Qm Qc;rw[hb];simp[hlt,hl]
   ·cases h
theorem ZI(h:k<hp.length):Qm (hp++r) k cs=Qm hp k cs++r:=by
 unfold Qm;grind
theorem ZJ(h:hp.length<=k):Qm (hp++r) k cs=hp++Qm r (k-hp.length) cs:=by
 unfold Qm;rw[Jm h];cases r[k-hp.length]? with
 |some B=>exact KV _ _ h
 |none=>rfl
theorem ZK:(kill hp k).length=hp.length:=QP hp k
theorem ZL(h:j≠k):(kill hp j)[k]?=hp[k]?:=by
 unfold kill;grind
theorem mh(h:j≠k):(Qm hp j cs)[k]?=hp[k]?:=by
 unfold Qm;grind
theorem Cn(h:j≠k):Qc (Qm hp j cs) k=Qc hp k:=by unfold Qc;rw[mh h]
theorem Pf(h:hp[k]?=some B):(Qm hp k cs)[k]?=some { B with cells:=cs }:=by
 have hlt:=(Jb.1 h).1;unfold Qm;grind
theorem kM:Qc (Qm hp k cs) k = (Qc hp k).map fun _=>cs:=by
 unfold Qm Qc;grind
theorem vn{hp r:Qb}{k:Nat}(h:k<hp.length):(hp++r)[k]?=hp[k]?:=Jh h
theorem CQ{hp r:Qb}:(hp++r)[hp.length]?=r[0]?:=by rw[Jm (Jo _),K0]
theorem rC{hp r:Qb}{k:Nat}(h:hp.length<=k):(hp++r)[k]?=r[k-hp.length]?:=Jm h
theorem Cd{hp:Qb}{k j:Nat}{B:Blk}(h:k≠j):(Uh hp k B)[j]?=hp[j]?:=J1 h
theorem Cf(h:k≠j):Qc (Uh hp k B) j=Qc hp j:=by unfold Qc;rw[J1 h]
theorem ZM{hp r:Qb}{k:Nat}{B:Blk}(h:k<hp.length):Uh (hp++r) k B=Uh hp k B++r:=Ku _ _ h
theorem Oo{hp:Qb}{k:Nat}{B:Blk}:(Uh hp k B).length=hp.length:=Jx
end Go.V
namespace Go.V
variable {P:Program} {γ:Type} {Γ:γ->World->World->Map->Qb->Prop}
@[congr] def QF1(c:Code)(Q:Exit->St->γ->Prop)(g:γ)(h:S=S'):VWpG P Γ c Q S g=VWpG P Γ c Q S' g:=by rw[h]
@[congr] def QFw(o:Oper)(K:St->γ->Prop)(g:γ)(h:S=S'):fp P Γ o K S g=fp P Γ o K S' g:=by rw[h]
@[congr] def QHo(ops:Array Oper)(o:Oper)(K:St->γ->Prop)(g:γ)(h:S=S'):OpG P Γ ops o K S g=OpG P Γ ops o K S' g:=by rw[h]
@[congr] def QGn(ops:Array Oper)(K:St->Prop)(h:S=S'):pF P ops K S=pF P ops K S':=by rw[h]
@[congr] def QF9(ops:Array Oper)(ch:List (List Oper×Option Oper))(K:St->γ->Prop)(g:γ)(h:S=S'):lp P Γ ops ch K S g=lp P Γ ops ch K S' g:=by rw[h]
@[congr] def QCI(g:γ)(S':St)(g':γ)(h:S1=S1'):WeakG Γ S1 g S' g'=WeakG Γ S1' g S' g':=by rw[h]
@[congr] def QGd(ops:Array Oper)(k:Nat)(K:St->Prop)(h:S=S'):sX P ops k K S=sX P ops k K S':=by rw[h]
theorem ZN(ops:Array Oper)(k:Nat)(K:St->Prop)(nt base:Nat)(tm:List (Nat×DV))(hp:Qb):sX P ops k K ⟨nt,base,tm,hp⟩=vdr P (dc ops k).toList (ops.toList.drop (k+1)) (JD (k+1) ([],false)) K ⟨nt,base,tm,hp⟩:=rfl
theorem ZO (after:Array Edge) (f:List Nat × Bool) (m:Nat) (r:List (List Nat × Bool)):∀n,QX after f n (JD m ([],false) ++ r) = QX after f (n + m) r:=by
 induction m with
 |zero=>intro n;simp
 |succ m ih =>
   intro n;rw[J9,Kh,Ea,ih,show n+1+m=n+(m+1) by omega]
theorem ZP(after:Array Edge)(f:List Nat×Bool)(m:Nat)(n:Nat):QX after f n (JD m ([],false))=true:=by
 have:=ZO after f m [] n;rw[KS] at this;rw[this];rfl
theorem ZQ (after:Array Edge) (f:List Nat × Bool) (a b:List (List Nat × Bool)):∀n,QX after f n (a ++ b) = (QX after f n a && QX after f (n + a.length) b):=by
 induction a with
 |nil=>intro n;simp[QX]
 |cons x r ih =>
   intro n;rw[Kh];unfold QX;rw[ih,Bool.and_assoc,Jc,show n+1+r.length=n+(r.length+1) by omega];congr 2;cases hb:b<;>simp[QX]
theorem ZR(Q:Exit->St->γ->Prop)(K:St->γ->Prop)(S:St)(g:γ):ni Q K .normal S g=K S g:=rfl
theorem ZS(Q:Exit->St->γ->Prop)(K:St->γ->Prop)(S:St)(g:γ):ni Q K .ret S g=Q .ret S g:=rfl
theorem ZT(Q:Exit->St->γ->Prop)(K:St->γ->Prop)(id:Nat)(S:St)(g:γ):ni Q K (.exit id) S g=Q (.exit id) S g:=rfl
theorem ZU(id:Nat)(Q:Exit->St->γ->Prop)(S:St)(g:γ):pE id Q .normal S g=Q .normal S g:=rfl
theorem ZV(id:Nat)(Q:Exit->St->γ->Prop)(S:St)(g:γ):pE id Q .ret S g=Q .ret S g:=rfl
theorem ZW(id id':Nat)(Q:Exit->St->γ->Prop)(S:St)(g:γ):pE id Q (.exit id') S g=if id'=id then Q .normal S g else Q (.exit id') S g:=rfl
theorem ZX(nt base:Nat)(tm:List (Nat×DV))(hp:Qb):St.reb ⟨nt,base,tm,hp⟩=⟨nt,hp.length,tm,hp⟩:=rfl
attribute [go_sem] ZN ZQ ZP ZR ZS ZT ZU ZV ZW ZX ZH Qv Ji Qr ZI vn kM u5 rC ZJ K0 Cd Cf ZM
def kL(P:Program)(T:TypeId):Option Value:=(P.info? T).bind (·.zero)
theorem eo (h:kL P T = some z):∀w,(zeroValue T).run P w = .ok z w:=fun w=>by
 unfold kL at h;cases hi:P.info? T with
 |none=>rw[hi] at h;cases h
 |some i =>
   rw[hi] at h;have h':i.zero=some z:=h;simp[zeroValue,typeInfo,hi,h']
theorem gi(h:v.oneCell'=true):∀(w:World) (β:Map) (hp:Qb),RelD w β hp (.pv (.lit v)) v:=fun _ _ _=>.pv _ _ (.lit _ h)
abbrev kI:Int->Value:=fun x=>.int .i64 x
theorem bV{κ:Type}{enc:κ->Value}{k:κ}{d:DV}(h:d=.pv (.lit (enc k))):∀(w:World) (β:Map) (hp:Qb) (v:Value),RelD w β hp d v->v=enc k:=fun w β hp v hr=>by
 subst h;exact Qk hr
end Go.V
namespace Go.V
def VCalls.lendN(ha:Qi (args.map (dp hp))=some args0)(c:VCalls P g args0 [] (fO (fun _=>false) [] sz n T cs))(hcs:∀d∈cs,d.flat=true):
 VCalls P g args hp fun r h'=>r=.own hp.length sz 0 n/\h'=hp++[⟨T,true,cs⟩]:=by
 refine⟨fun w β vs hh hr=>?_⟩;let βc:Map:=⟨fun _=>none,β.X⟩
 have himc:∀b,img βc [] b->β.X b:=fun b hb=>by
  rcases hb with hb|⟨i,D,h1,_⟩
  ·exact hb
  ·simp at h1
 have hlv:Leaves w β hp 0 (img βc []):=⟨fun b hb=>.inl (himc b hb),fun k B b _ h1 h2 h3 hb=>hh.avoid k B b h1 h2 h3 (himc b hb)⟩
 have hhc:HeapRel w βc []:=⟨vv,vv,vv,vv,hh.bound⟩
 obtain⟨a1,a2⟩:=QE ha
 have hargs:RelL w βc [] args0 vs:=by
  refine⟨by rw[a1];simpa using hr.1,fun i d hd=>?_⟩;have h3:=a2 i d hd;rw[Jd] at h3;obtain⟨x,x1,x2⟩:=QF h3;exact xl hh hlv (hr.2 i x x1) x2
 refine(c.run w βc vs hhc hargs).mono ?_;rintro e w' ⟨v,r,h',β',rfl,ev,hh',hrel,rfl,rfl⟩;have heap_same:∀b,b<w.heap.size->w'.heap[b]?=w.heap[b]?:=fun b hb=>ev.same b hb (by rintro⟨k,B,h1,_⟩;simp at h1);have eh:(cj (fun _=>false) ([]:Qb)++[⟨T,true,cs⟩])=[⟨T,true,cs⟩]:=rfl;rw[eh] at hh' ev hrel
 have fresh:∀b,β'.f 0=some b->w.heap.size<=b:=fun b hb=>by
  by_cases hlt:b<w.heap.size
  ·obtain ⟨k,B,h1,_⟩:=ev.im b hlt ⟨0,_,rfl,rfl,hb⟩;simp at h1
  ·omega
 let βn:Map:=⟨fun k=>if k=hp.length then β'.f 0 else β.f k,β.X⟩
 have hold:∀k,k<hp.length->βn.f k=β.f k:=fun k hk=>if_neg vz;have hnew:βn.f hp.length=β'.f 0:=if_pos rfl;have hX:β'.X=β.X:=ev.X
 have blkb:∀k B b,hp[k]?=some B->B.live=true->β.f k=some b->b<w.heap.size:=fun k B b h1 h2 h3=>by
  obtain⟨C,g1,_⟩:=hh.blk k B b h1 h2 h3;exact(Jf.1 g1).1
 have e:Evo w β hp w' βn (hp++[⟨T,true,cs⟩]):=by
  refine⟨ev.os,ev.tape,ev.output,ev.size,vv,hold,fun b hb _=>heap_same b hb,fun b C T m h=>⟨C,m,by rw[heap_same b (Jf.1 h).1];exact h,rfl⟩,?_,rfl⟩;rintro b hb ⟨k,B,h1,h2,h3⟩;by_cases hk:k<hp.length
  ·rw [Jh hk] at h1;exact⟨k,B,h1,h2,by rw[<-hold k hk];exact h3⟩
  ·have hkl:=(Jb.1 h1).1;have:k=hp.length:=by simp at hkl;omega
   subst this;rw[hnew] at h3;have:=fresh b h3;omega
 refine⟨v,_,hp++[⟨T,true,cs⟩],βn,rfl,e,?_,?_,rfl,rfl⟩
 ·have split:∀k (B:Blk),(hp ++ [(⟨T,true,cs⟩:Blk)])[k]? = some B->(k < hp.length/\hp[k]? = some B)\/(k = hp.length/\B = ⟨T,true,cs⟩):=fun k B h=>by
   by_cases hk:k<hp.length
   ·rw[Jh hk] at h;exact .inl ⟨hk,h⟩
   ·have hkl:=(Jb.1 h).1;have:k=hp.length:=by simp at hkl;omega
    subst this;rw[Jm (Jo _),K0] at h;simp at h;exact .inr ⟨rfl,h.symm⟩
  refine⟨fun k B b h1 h2 h3=>?_,fun k B h1 h2 h3=>?_,fun i j B B' b h1 h2 h3 h4 h5 h6=>?_,fun k B b h1 h2 h3=>?_,fun b hb=>Jj (hh.bound b hb) ev.size⟩
  ·rcases split k B h1 with ⟨hk,h1'⟩|⟨rfl,rfl⟩
   ·rw [hold k hk] at h3;obtain⟨C,g1,g2,g3⟩:=hh.blk k B b h1' h2 h3;exact⟨C,by rw[heap_same b (Jf.1 g1).1];exact g1,g2,fun i d hd=>⟨(g3 i d hd).1,(g3 i d hd).2.mono e⟩⟩
   ·rw [hnew] at h3;obtain⟨C,g1,g2,g3⟩:=hh'.blk 0 _ b rfl rfl h3;exact⟨C,g1,g2,fun i d hd=>⟨(g3 i d hd).1,(g3 i d hd).2.flat (hcs d (K2 hd))⟩⟩
  ·rcases split k B h1 with ⟨hk,h1'⟩|⟨rfl,rfl⟩
   ·rw[hold k hk] at h3;exact hh.none k B h1' h2 h3
   ·rw[hnew] at h3;exact hh'.none 0 _ rfl rfl h3
  ·rcases split i B h1 with ⟨hi,h1'⟩|⟨rfl,rfl⟩
   ·rw [hold i hi] at h5;rcases split j B' h2 with⟨hj,h2'⟩|⟨rfl,rfl⟩
    ·rw[hold j hj] at h6;exact hh.inj i j B B' b h1' h2' h3 h4 h5 h6
    ·rw [hnew] at h6;have:=fresh b h6;have:=blkb i B b h1' h3 h5;omega
   ·rw [hnew] at h5;rcases split j B' h2 with⟨hj,h2'⟩|⟨rfl,rfl⟩
    ·rw [hold j hj] at h6;have:=fresh b h5;have:=blkb j B' b h2' h4 h6;omega
    ·rfl
  ·rcases split k B h1 with ⟨hk,h1'⟩|⟨rfl,rfl⟩
   ·rw[hold k hk] at h3;exact hh.avoid k B b h1' h2 h3
   ·rw [hnew] at h3;have:=hh'.avoid 0 _ b rfl rfl h3;rw[hX] at this;exact this
 ·have hl:hp.length < (hp ++ [(⟨T,true,cs⟩:Blk)]).length:=vv;have:RelD w' β' [⟨T,true,cs⟩] (.own 0 sz 0 n) v:=hrel;cases this with
  |own _ _ _ _ cap b C T m h1 h2 h3 h4 h5 h6=>exact .own _ _ _ _ cap b C T m hl (by rw[hnew];exact h2) h3 h4 h5 h6
  |own0 _ _ a h1 h2 h3=>exact .own0 _ _ a hl (by rw[hnew];exact h2) h3
def rA(c:VCalls P g args0 [] (fO (fun _=>false) [] sz n T cs))(ha:Qi (args.map (dp hp))=some args0)(hcs:∀d∈cs,d.flat=true)(h:K (.own hp.length sz 0 n) (hp++[⟨T,true,cs⟩])):VCalls P g args hp K:=(VCalls.lendN ha c hcs).mono fun r h' e=>by obtain⟨rfl,rfl⟩:=e;exact h
def Oi (e:Enc α) (l:List α) (h:∀a ∈ l,∀p ∈ e.enc a,(DV.pv p).flat = true):∀d ∈ cells e l,d.flat = true:=by
 induction l with
 |nil=>intro d hd;simp[cells] at hd
 |cons a r ih =>
   intro d hd;rw[QG] at hd;rcases Ki.1 hd with hd|hd
   ·obtain ⟨p,hp,rfl⟩:=J4.1 hd;exact h a vv p hp
   ·exact ih (fun x hx=>h x (K3 _ hx)) d hd
end Go.V
namespace Go.V
variable {P:Program} {γ:Type} {Γ:γ->World->World->Map->Qb->Prop}
def lq (l:List Oper):List Nat->List (List Oper × Option Oper)
 |[]=>[(l,none)]
 |k :: r=>match l[k]? with
   |some o=>(l.take k,some o)::lq (l.drop (k+1)) r
   |none=>[(l,none)]
theorem E8:∀(ks:List Nat) (l:List Oper),bk (lq l ks) = l
 |[],l=>by simp[lq,bk]
 |k :: r,l=>by
   unfold lq;cases h:l[k]? with
   |none=>simp[bk]
   |some o =>
     simp only[bk,E8 r];have hlt:=(Jb.1 h).1;have e:l[k]=o:=(Jb.1 h).2;conv=>rhs;rw[<-KU k l]
     congr 1;rw[KC hlt,e]
def jV(P:Program)(Γ:γ->World->World->Map->Qb->Prop)(ops:Array Oper)(l:List Oper)(ks:List Nat)(K:St->γ->Prop)(S:St)(g:γ):Prop:=lp P Γ ops (lq l ks) K S g
def pG(P:Program)(Γ:γ->World->World->Map->Qb->Prop)(ops:Array Oper)(x:Option Oper)(A B:List Oper)(ks:List Nat)(K:St->γ->Prop)(S:St)(g:γ):Prop:=match x with
 |some o=>an P ops.toList A (fun S1=>OpG P Γ ops o (jV P Γ ops B ks K) S1 g) S.reb
 |none=>False
theorem ZY(ops:Array Oper)(l:List Oper)(K:St->γ->Prop)(S:St)(g:γ):jV P Γ ops l [] K S g=an P ops.toList l (fun S1=>K S1 g) S.reb:=rfl
theorem ZZ(ops:Array Oper)(o:Oper)(A B:List Oper)(ks:List Nat)(K:St->γ->Prop)(S:St)(g:γ):pG P Γ ops (some o) A B ks K S g=an P ops.toList A (fun S1=>OpG P Γ ops o (jV P Γ ops B ks K) S1 g) S.reb:=rfl
@[congr] def QCY(ops:Array Oper)(ks:List Nat)(K:St->γ->Prop)(S:St)(g:γ)(h1:x=x')(h2:A=A')(h3:B=B'):pG P Γ ops x A B ks K S g=pG P Γ ops x' A' B' ks K S g:=by rw[h1,h2,h3]
@[congr] def QCX(ops:Array Oper)(l:List Oper)(ks:List Nat)(K:St->γ->Prop)(g:γ)(h:S=S'):jV P Γ ops l ks K S g=jV P Γ ops l ks K S' g:=by rw[h]
theorem VWpG.cut(hΓ:∀g,Stable (Γ g)){id:Nat}(ks:List Nat)(h:jV P Γ ops ops.toList ks (Q .normal) S g):VWpG P Γ (.region id ops false) Q S g:=
 VWpG.region hΓ (lq ops.toList ks) (E8 ks _).symm h
theorem mg(h:pG P Γ ops l[k]? (l.take k) (l.drop (k+1)) ks K S g):jV P Γ ops l (k::ks) K S g:=by
 unfold jV lq;cases e:l[k]? with
 |none=>rw[e] at h;exact h.elim
 |some o=>rw[e] at h;exact h
theorem VWpG.cut1(hΓ:∀g,Stable (Γ g)){id:Nat}(k:Nat)(ks:List Nat)(h:pG P Γ ops ops.toList[k]? (ops.toList.take k) (ops.toList.drop (k+1)) ks (Q .normal) S g):VWpG P Γ (.region id ops false) Q S g:=VWpG.cut hΓ (k::ks) (mg h)
attribute [go_sem ↓] ZY ZZ
theorem rp(hΓ:∀g,Stable (Γ g))(hf:S.fits o.dst=true)(h:∀(w:World) (β:Map) (ρ:Operand->Value),HeapRel w β S.hp->(∀x,RelD w β S.hp (Qn true (S.ev x)) (ρ x))->iU P w β S.hp (execOp ρ o) d hp')(hK:K ((S.at hp').put o.dst (aw o.guard true d)) g):fp P Γ o K S g:=fun O β a w hs=>by
 have e:∀x,S.reb.ev x=S.ev x:=fun x=>by cases x<;>rfl
 obtain⟨v,w',β',h1,h2,h3,h4⟩:=h w β a.eval hs.heap (fun x=>by have:=gy (hs.reb.ev x) (G:=true) rfl;rw[e] at this;exact this);have hs':=hs.reb.step (dst:=o.dst) h2 h3 (QU (g:=o.guard) h4) hf;refine⟨v,w',h1,β',_,g,?_,hK⟩;have:=hs.on (hΓ g) hs';cases hd:o.dst with
 |none=>rw[hd] at this;exact⟨this.defers,this.size,this.tm,this.heap,this.evo,this.g⟩
 |some t=>rw[hd] at this;exact⟨this.defers,this.size,this.tm,this.heap,this.evo,this.g⟩
theorem Z0(hh:HeapRel w β hp)(he:QL P sT=some (none,e,sz))(hint:oW P xT=true)(hib:bI P e=some by_)(hz:QO P e=some z)(hl0:0<l)(hl1:l<=1000000000)(hszp:0<sz)(hzl:z.length=sz)(hzo:Qp z=true)(hbp:0<by_)(hby:l.toNat*by_<=140737488355328):
 Does P w β hp (Builtin.append_ #[sT,xT] ty #[.slice a 0 0,.int kx l]) (.own hp.length sz 0 l.toNat) (hp++[⟨e,true,mk z l.toNat⟩]):=by
 obtain⟨i,hi,rfl⟩:=oM hib;obtain⟨hu,i',hi',rfl⟩:=Qq he;rw[hi] at hi';simp at hi';subst hi'
 obtain⟨kn,hxu⟩:∃kn,P.underlying xT=some (.int kn):=by
  unfold oW at hint;split at hint
  ·exact⟨_,vq⟩
  ·cases hint
 obtain⟨zv,_,⟨i2,hi2,hz2⟩,hzr⟩:=gZ hz w β hp;rw[hi] at hi2;simp at hi2;subst hi2;have hzs:zv.cells.size=i.size:=by rw[<-hzr.1,hzl]
 have hmax:0+l.toNat<=maxLen:=by
  have:l.toNat<=l.toNat*i.bytes:=Nat.le_mul_of_pos_right _ hbp;simp[maxLen];omega
 obtain⟨g1,g2⟩:=mI hzr vz l.toNat (l.toNat*zv.cells.size) (by rw[hzr.1];exact Jo _);have hml:(mk z l.toNat).length=(madeCells zv.cells (l.toNat*zv.cells.size)).size:=by rw[fK,size_madeCells,hzr.1]
 have hrun:=DQ (P:=P) (w:=w) (ty:=ty) (k:=kx) (a:=a) (n:=0) (cap:=0) (olds:=#[]) hu hxu hi hz2 (by cases a<;>simp[Builtin.firstCells,loadCells,loadCellsFrom]) hl0 hl1 hszp vz hbp (by rw[Ju];exact hby);rw[DR l.toNat] at hrun
 obtain⟨β',r1,r2,r3⟩:=mL (cap:=0) (sz:=i.size) (e:=e) (z:=zv) (n:=0) (m:=l.toNat) hh (Evo.refl w β hp) rfl (olds:=[]) (ov:=#[]) ⟨rfl,vv⟩ (news:=mk z l.toNat) (nv:=madeCells zv.cells (l.toNat*zv.cells.size)) ⟨hml,g2⟩ (fun d hd=>by
  rcases Ki.1 hd with hd|hd
  ·simp at hd
  ·obtain ⟨j,hj⟩:=List.mem_iff_getElem?.1 hd
   exact mE (mH hzo _) j d hj) vv (by rw[fK,hzl]) hzs hmax _ rfl
 simp only[Ju,KT] at r1 r2 r3;exact⟨_,_,β',by rw[Ju] at hrun;exact hrun,r1,r2,r3⟩
theorem xz (h:RelD w β hp (.pv (.slc [])) v):∃a,v = .slice a 0 0:=by
 cases h with
 |pv _ _ h=>cases h with
   |slc xs a sz val h1 h2 h3 h4 h5=>exact⟨a,rfl⟩
theorem Z1(w:World)(β:Map)(hp:Qb)(a:Option Addr):RelD w β hp (.pv (.slc [])) (.slice a 0 0):=.pv _ _ (.slc [] a 0 (fun _ _=>undef) (JF _) vv (fun _ _ h0=>absurd h0 vv) vv vv)
theorem BZ{S:St}(hop:o.op=.call ⟨.builtin .cap,#[x],#[T]⟩)(he:QL P T=some (none,e,sz))(hx:Qn true (S.ev x)=.pv (.slc [])):
 ∀(w:World) (β:Map) (ρ:Operand->Value),HeapRel w β S.hp->(∀x,RelD w β S.hp (Qn true (S.ev x)) (ρ x))->iU P w β S.hp (execOp ρ o) (.int .i64 0) S.hp:=fun w β ρ hh hρ=>by
 have h1:=hρ x;rw[hx] at h1;obtain⟨a,ha⟩:=xz h1;obtain⟨hu,i',hi',rfl⟩:=Qq he;refine⟨.int .i64 0,w,β,.inl ?_,Evo.refl _ _ _,hh,.pv _ _ (.lit _ rfl)⟩;simp[execOp,hop,resolve,invoke,builtin,Builtin.cap_,run_underlying hu,ha,goInt]
theorem Od{S:St}(hop:o.op=.slice T x none (some y) none)(he:QL P T=some (none,e,sz))(hx:Qn true (S.ev x)=.pv (.slc []))(hy:Qn true (S.ev y)=.int .i64 0):
 ∀(w:World) (β:Map) (ρ:Operand->Value),HeapRel w β S.hp->(∀x,RelD w β S.hp (Qn true (S.ev x)) (ρ x))->iU P w β S.hp (execOp ρ o) (.pv (.slc [])) S.hp:=fun w β ρ hh hρ=>by
 have h1:=hρ x;rw[hx] at h1;have h2:=hρ y;rw[hy] at h2;obtain⟨a,ha⟩:=xz h1;have hyv:=Qk h2;obtain⟨hu,i',hi',rfl⟩:=Qq he;have h1:=hY (P:=P) (w:=w) (β:=β) (hp:=S.hp) (y:=0) (len:=0) (b:=0) (hi:=some (.int .i64 0)) (hv:=some (.int .i64 0)) (code:=if true then BoundsCode.sliceAcap else .sliceAlen) rfl (fun d h=>⟨_,rfl,by cases h;exact .pv _ _ (.lit _ rfl)⟩) vv vz;have hr:=jG (isSl:=true) (len:=0) (a:=0) (cap:=0) vz h1 (.inl ⟨rfl,rfl⟩);refine⟨.slice a 0 0,w,β,.inl ?_,Evo.refl _ _ _,hh,Z1 _ _ _ a⟩;simp[execOp,hop,ha,hyv,Instr.sliceAt,Instr.slice,run_underlying hu,hr,sizeOf,typeInfo,hi']
theorem Oe{S:St}(hop:o.op=.call ⟨.builtin .append,#[x,y],#[sT,xT]⟩)(he:QL P sT=some (none,e,sz))(hint:oW P xT=true)(hib:bI P e=some by_)(hz:QO P e=some z)(hl0:0<l)(hl1:l<=1000000000)(hszp:0<sz)(hzl:z.length=sz)(hzo:Qp z=true)(hbp:0<by_)(hby:l.toNat*by_<=140737488355328)(hx:Qn true (S.ev x)=.pv (.slc []))(hy:Qn true (S.ev y)=.int .i64 l):
 ∀(w:World) (β:Map) (ρ:Operand->Value),HeapRel w β S.hp->(∀x,RelD w β S.hp (Qn true (S.ev x)) (ρ x))->iU P w β S.hp (execOp ρ o) (.own S.hp.length sz 0 l.toNat) (S.hp++[⟨e,true,mk z l.toNat⟩]):=fun w β ρ hh hρ=>by
 have h1:=hρ x;rw[hx] at h1;have h2:=hρ y;rw[hy] at h2;obtain⟨a,ha⟩:=xz h1;have hyv:=Qk h2;obtain⟨v,w',β',r1,r2,r3,r4⟩:=Z0 (ty:=o.type) (a:=a) (kx:=.i64) hh he hint hib hz hl0 hl1 hszp hzl hzo hbp hby;refine⟨v,w',β',.inl ?_,r2,r3,r4⟩;simp[execOp,hop,resolve,invoke,builtin,ha,hyv,r1]
theorem VWpG.weakG(h:VWpG P Γ c Q S' g')(hw:WeakG Γ S g S' g'):VWpG P Γ c Q S g:=fun O β a w hs=>by
 obtain⟨β',h'⟩:=hw O β a w hs;exact h O β' a w h'
theorem VWpG.mono(h:VWpG P Γ c Q S g)(hq:∀e S g,Q e S g->Q' e S g):VWpG P Γ c Q' S g:=fun O β a w hs=>
 wp_mono (h O β a w hs) fun _ _ _ ⟨β',S',g',k1,k2⟩=>⟨β',S',g',k1,hq _ _ _ k2⟩
structure FrH(hp h':Qb)(A:Nat->Prop):Prop where
 len:hp.length<=h'.length
 same:∀j,j<hp.length->¬A j->h'[j]?=hp[j]?
theorem FrH.refl(hp:Qb)(A:Nat->Prop):FrH hp hp A:=⟨Jo _,fun _ _ _=>rfl⟩
theorem FrH.app(h:FrH hp h' A)(r:Qb):FrH hp (h'++r) A:=⟨by rw[Ji];have:=h.len;omega,fun j hj ha=>by rw[Jh (Jj hj h.len)];exact h.same j hj ha⟩
theorem FrH.set(h:FrH hp h' A)(hk:A k)(cs:List DV):FrH hp (Qm h' k cs) A:=⟨by rw[Qv];exact h.len,fun j hj ha=>by rw[mh (fun e=>ha (by rw[<-e];exact hk))];exact h.same j hj ha⟩
theorem FrH.kill{hp h':Qb}{A:Nat->Prop}(h:FrH hp h' A){k:Nat}(hk:A k):FrH hp (kill h' k) A:=⟨by rw[ZK];exact h.len,fun j hj ha=>by rw[ZL (fun e=>ha (by rw[<-e];exact hk))];exact h.same j hj ha⟩
theorem FrH.trans(h:FrH hp h1 A)(g:FrH h1 h2 B)(hAB:∀j,j<hp.length->B j->A j):FrH hp h2 A:=⟨KY h.len g.len,fun j hj ha=>by rw[g.same j (Jj hj h.len) (fun hb=>ha (hAB j hj hb))];exact h.same j hj ha⟩
theorem Cm(h:h'[k]?=hp[k]?):Qc h' k=Qc hp k:=by unfold Qc;rw[h]
end Go.V
