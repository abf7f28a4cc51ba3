/-
  Contracts of functions and plain laws. No condition.
-/
import Derived.Test.YtalibkpienbliaaGreatP3
import Derived.Test.YtalibkpienbliaaGreatP1
import Derived.Test.YtalibkpienbliaaGreatV3
import Derived.Test.YtalibkpienbliaaGreatP2
import Derived.Test.YtalibkpienbliaaGreatV4
set_option linter.unusedSimpArgs false
set_option linter.unusedVariables false
set_option linter.defProp false
set_option maxRecDepth 100000
set_option maxHeartbeats 8000000
set_option autoImplicit true
set_option relaxedAutoImplicit true
open And renaming intro->Ja
open Bool renaming and_eq_true->Jf,not_eq_true'->Jy,eq_iff_iff->JN,or_eq_true->JR,false_eq_true->J3,eq_false_iff->J6,or_eq_false_iff->Kc,or_false->Kd,true_and->Ke,and_false->Km,false_and->Ko,and_eq_false_iff->Kv,beq_eq_decide_eq->Kw,and_comm->KD,not_false->KQ,and_true->KT,not_true->KU
open Int renaming le_refl->J1,toNat_natCast->Kp,lt_trichotomy->KE,le_trans->KV
open List renaming length_append->Jb,append_assoc->Jc,mem_append_left->Jd,getD_eq_getElem?_getD->Je,take_append_of_le_length->Jg,mem_append->Jh,mem_filter->Ji,mem_cons->Jj,append_nil->Jk,take_succ_eq_append_getElem->Jl,mem_cons_of_mem->Jm,getElem?_append_left->Jn,findIdx_lt_length_of_exists->Jo,take_append_drop->Jr,pairwise_append->Js,pairwise_cons->Jt,length_take->Ju,filter_cons->Jv,flatMap_append->Jw,flatMap_cons->Jx,mem_append_right->Jz,replicate->JA,map_cons->JB,take_of_length_le->JC,range->JD,filter_eq_self->JE,drop_append_of_le_length->JF,take_length->JG,not_mem_nil->JH,nil_append->JI,drop_of_length_le->JJ,length_cons->JK,mem_singleton->JL,append_of_mem->JM,cons_append->JP,prefix_append->JQ,mem_map->JT,filter_nil->JU,nodup_cons->JV,take_zero->JX,take_left->JY,length_drop->JZ,getElem_mem->J0,getElem?_take->J2,mem_cons_self->J5,mem_range->J7,take_take->J8,mem_flatMap->J9,mem_iff_getElem->Ka,mem_of_mem_take->Kb,getD_cons_succ->Kf,length_set->Kg,find?_cons->Kh,getElem?_append_right->Ki,filter_append->Kj,drop_drop->Kl,prefix_refl->Kq,all_eq_true->Kr,any_eq_true->Ks,length_singleton->Kt,length_replicate->Ku,map_append->Kx,range_succ->Ky,mem_of_mem_drop->Kz,drop_zero->KA,take_succ_cons->KB,getElem?_drop->KC,nodup_append->KF,findIdx_cons->KG,filter_congr->KH,drop_append->KL,append_inj->KM,foldl_cons->KN,all_append->KO,drop_left->KP,Pairwise->KS
open Nat renaming le_refl->Jp,not_lt_zero->Jq,zero_le->JO,le_trans->JS,le_succ_of_le->JW,min_eq_left->J4,lt_of_lt_of_le->Kk,le_of_lt->KK,add_assoc->KR
open Option renaming some->KW
namespace Go.Proofs.YtalibkpienbliaaGreat
open Go.V Go
open Tryz (prog)
def gf(s:List UInt8)(a l:Int):Option (E×Int):=if (unf s a).2.2=0/\(fA (unf s a).1).2=0/\(fA (unf s a).1).1.lsn=l then some ((fA (unf s a).1).1,(unf s a).2.1) else none
def opn (s:List UInt8):Nat->Int->Int->List E
 |0,_,_=>[]
 |n + 1,a,l=>match gf s a l with
   |some (x,b)=>x::opn s n b (l+1)
   |none=>[]
def ma(s:List UInt8):List E:=opn s 4096 (unf s 0).2.1 (dF (unf s 0).1 4 8)
def hdO(s:List UInt8):Prop:=(unf s 0).2.2=0/\(unf s 0).1.length=12/\(unf s 0).1.take 4=[80,77,76,71]/\1<=dF (unf s 0).1 4 8/\dF (unf s 0).1 4 8<=1099511627776
instance (s:List UInt8):Decidable (hdO s):=by unfold hdO;infer_instance
def bT(s:List UInt8):Lg×Int:=if hdO s then (⟨dF (unf s 0).1 4 8,ma s,dF (unf s 0).1 4 8+(ma s).length-1⟩,0) else (Lg0,4)
def Bp (s:List UInt8):∀n a l,(opn s n a l).length<=n
 |0,_,_=>Jp _
 |n + 1,a,l=>by
   unfold opn;split
   ·rw[JK];have:=Bp s n;exact Nat.succ_le_succ (this _ _)
   ·exact JO _
def Bq(n:Nat)(h:gf s a l=none):opn s n a l=[]:=by
 cases n
 ·rfl
 ·unfold opn;rw[h]
def Nc(h:(unf s a).2.2≠0):gf s a l=none:=if_neg fun x=>h x.1
structure Op(s:List UInt8)(f a0:Int) where
 l:List E
 a:Int
 hl:l.length<=4096
 h:l++opn s (4096-l.length) a (f+l.length)=opn s 4096 a0 f
def Op.start(s:List UInt8)(f a0:Int):Op s f a0:=⟨[],a0,JO _,vv⟩
def Nd(hn:n<4096)(h:gf s a l=some (x,b)):opn s (4096-n) a l=x::opn s (4096-(n+1)) b (l+1):=by
 obtain⟨m,hm⟩:∃m,4096-n=m+1:=⟨4095-n,vz⟩
 rw[hm,show 4096-(n+1)=m by omega];conv=>lhs;unfold opn
 rw[h]
def Op.next{s:List UInt8}{f a0:Int}(o:Op s f a0)(hn:o.l.length<4096){x:E}{b:Int}(h:gf s o.a (f+o.l.length)=some (x,b)):Op s f a0:=⟨o.l++[x],b,vg,by
 have:=o.h;rw[Nd hn h] at this;rw[<-this,Jb,Kt,Jc,List.singleton_append];congr 3
 omega⟩
def Op.stop(o:Op s f a0)(h:o.l.length<4096->gf s o.a (f+o.l.length)=none):opn s 4096 a0 f=o.l:=by
 rw[<-o.h];by_cases hc:o.l.length<4096
 ·rw[Bq _ (h hc),Jk]
 ·have:=o.hl;rw[show 4096-o.l.length=0 by omega];exact Jk _
def Nf(s:List UInt8)(hs:s.length<=100000000):VCalls prog 155 [.pv (.str s)] [] (Ret (lgD (bT s))):=by
 refine VCalls.unwk ?_;refine dd Tryz.func155 ?_;have c0:=Bl s hs 0;have hu:=Bk s 0;generalize hR:bT s=R;unfold ri at c0;generalize hU:unf s 0=u at *;obtain⟨u,a0,e0⟩:=u;dsimp only at hu c0;refine rn F ?_;by_cases he:e0=0;rotate_left
 ·skip
  have F:=@he;refine rn F ?_
  repeat' (first|with_reducible exact⟨⟩|refine vp F (c0) ?_)
  all_goals
   rw[<-hR];unfold bT;rw[if_neg (fun h=>by have h1:=h.1;rw[hU] at h1;exact he h1)];rfl
 subst he;by_cases hl:u.length=12;rotate_left
 ·have hl2:¬(u.length:Int) = 12:=vz;have F:=@hl2;refine rn F ?_
  repeat' (first|with_reducible exact⟨⟩|refine vp F (c0) ?_)
  all_goals first|(rw[<-hR];unfold bT;rw[if_neg (fun h=>by have h1:=h.2.1;rw[hU] at h1;exact hl h1)];rfl)|(exfalso;omega)
 have h4:4<=u.length:=vz;have c3:=lr u vz 4 8 vz vz;have hN:IntKind.i64.wrap (aW u 4 8)=dF u 4 8:=rfl;rw[hN] at c3;generalize hn:dF u 4 8=f at *;have hl3:(u.length:Int)=12:=vz;by_cases hp:u.take 4=[80,77,76,71];rotate_left
 ·skip
  have F:=(Ja @h4 (Ja @hl3 @hp))
  refine rn F ?_
  repeat' (first|with_reducible exact⟨⟩|(refine sG F ?_ ?_<;>intro hZ)|(refine sB F ?_ ?_<;>intro hZ)|refine vp F (c0) ?_|refine vp F (c3) ?_)
  all_goals first|(rw[<-hR];unfold bT;rw[if_neg (fun h=>by have h1:=h.2.2.1;rw[hU] at h1;exact hp h1)];rfl)|(exfalso;omega)|skip
  all_goals (exfalso;simp_all)
 by_cases hf:1<=f/\f<=1099511627776;rotate_left
 ·skip
  have F:=(Ja @h4 (Ja @hl3 @hp))
  refine rn F ?_
  repeat' (first|with_reducible exact⟨⟩|(refine sG F ?_ ?_<;>intro hZ)|refine vp F (c0) ?_|refine vp F (c3) ?_)
  all_goals first|(rw[<-hR];unfold bT;rw[if_neg (fun h=>by have h1:=h.2.2.2;rw[hU,hn] at h1;exact hf h1)];rfl)|(exfalso;omega)
 have F:=(Ja @h4 (Ja @hl3 @hp))
 refine rn F ?_
 repeat' (first|with_reducible exact⟨⟩|refine vp F (c0) ?_|refine vp F (c3) ?_)
 all_goals first|(exfalso;omega)|skip
 refine VLoop.nilOwnC 1 1 58 13 rfl rfl ?_;refine rn trivial ?_;refine Qj (fun o:{o:Op s f a0×Int // o.2=f+o.1.l.length-1}=>⟨90,0,[(9,.ptr 1 0),(5,.int .i64 o.1.1.a),(2,.ptr 0 0),(0,.pv (.str s))],[⟨26,true,[.int .i64 0,.pv (.slc []),.int .i64 0]⟩,⟨26,true,[.int .i64 f,.own 2 13 0 o.1.1.l.length,.int .i64 o.1.2]⟩,⟨58,true,cells encE o.1.1.l⟩]⟩) (fun o=>4096-o.1.1.l.length) ⟨(Op.start s f a0,f-1),by simp[Op.start]⟩ (gc [0,1,2]) ?_;rintro⟨⟨o,d⟩,hd⟩;dsimp only at hd |-;have hol:=o.hl;have hst:=o.stop;have c4:=Bl s hs o.a;unfold ri at c4;have hu2:=Bk s o.a;have hso:gf s o.a (f+o.l.length)=if (unf s o.a).2.2=0/\(fA (unf s o.a).1).2=0/\(fA (unf s o.a).1).1.lsn=f+o.l.length then some ((fA (unf s o.a).1).1,(unf s o.a).2.1) else none:=rfl
 generalize unf s o.a=v at *;obtain⟨v,b,e⟩:=v;dsimp only at hu2 hso c4;have c5:=Nb v vz;generalize fA v=D at *;have hb:(o.l.length+1)*128<=140737488355328:=vz
 have fin:(o.l.length<4096->gf s o.a (f+o.l.length)=none)->DV.tup [.agg [.int .i64 f,.pv (.sl (fz encE o.l)),.int .i64 d],.int .i64 0]=lgD R:=fun h=>by
  have h1:hdO s:=by unfold hdO;rw[hU,hn];exact⟨rfl,hl,hp,hf⟩
  have h2:ma s=o.l:=by unfold ma;rw[hU,hn];exact hst h
  rw[<-hR,hd];unfold bT;rw[if_pos h1,h2,hU,hn];rfl
 have F:=@hb;refine rn F ?_
 repeat' (first|with_reducible exact⟨⟩|(refine sG F ?_ ?_<;>intro hZ)|(refine sB F ?_ ?_<;>intro hZ)|refine vp F (c4) ?_|refine vp F (c5) ?_)
 ·exact fin fun _=>by rw[hso,if_neg fun h=>by have h1:=h.1;omega]
 ·exact fin fun _=>by rw[hso,if_neg fun h=>by have h1:=h.2.1;have h2:=h.2.2;omega]
 ·have hl1:(o.l ++ [D.1]).length = o.l.length + 1:=vv;refine⟨⟨(o.next vz (x:=D.1) (b:=b) (by rw[hso,if_pos ⟨vz,vz,vz⟩]),D.1.lsn),?_⟩,?_,?_⟩
  ·dsimp only[Op.next];rw[hl1];omega
  ·dsimp only[Op.next];rw[hl1];omega
  ·dsimp only [Op.next];rw[hl1];exact(gc [0,1,5])
 ·exact fin fun _=>by rw[hso,if_neg fun h=>by have h1:=h.2.1;omega]
 ·exact fin fun h=>by omega
def Br:∀{k:Nat},(∀i,i<k->s.getD (a+i) 0=t.getD (b+i) 0)->leN s a k=leN t b k
 |0,_=>rfl
 |k+1,h=>by rw[leN,leN,Br (fun i hi=>h i vz),h k vz]
def mb(s t:List UInt8)(n:Int)(k:Nat)(hk:k<=8):leN (Ql s n k++t) s.length k=u64N n % 2 ^ (8*k):=by
 have h:=nm s t n k hk k (Jp _);rw[nr _ _ _ hk] at h;omega
def frq(q:List UInt8):List UInt8:=Ql [] q.length 4++q
def uP(q:List UInt8):(frq q).length=q.length+4:=by rw[frq,Jb,Qe];simp;omega
def uQ(h:q.length<=8392):frm q=Ql (frq q) (bY (frq q)) 4:=by rw[frm,if_pos h];rfl
def om(h:q.length<=8392):(frm q).length=q.length+8:=by rw[uQ h,Qe,uP]
def Ng(p q:List UInt8)(n:Int)(k:Nat):p++Ql q n k=Ql (p++q) n k:=by simp[Ql]
def Bs(h:q.length<=8392)(p r:List UInt8):p++(frm q++r)=Ql (p++frq q) (bY (frq q)) 4++r:=by
 rw[uQ h,<-Ng,Jc]
def Bt(h:q.length<=8392)(p r:List UInt8):n4 (p++(frm q++r)) p.length=q.length:=by
 have:=mb p (q++((JD 4).map (cH (bY (frq q)))++r)) q.length 4 vz
 have e:p++(frm q++r)=Ql p q.length 4++(q++((JD 4).map (cH (bY (frq q)))++r)):=by
  rw[uQ h];generalize bY (frq q)=z;simp only[frq,Ql,JI,Jc]
 rw[n4,e,this];unfold u64N;omega
def Nh(h:q.length<=8392)(p r:List UInt8):(n4 (p++(frm q++r)) (p.length+4+q.length):Int)=bY (frq q):=by
 have:=mb (p++frq q) r (bY (frq q)) 4 vz;have hx:=pM (frq q);have hl:(p++frq q).length=p.length+4+q.length:=by rw[Jb,uP];omega
 rw[Bs h,n4,<-hl,this];unfold u64N;omega
def Ni(h:q.length<=8392)(p r:List UInt8):((p++(frm q++r)).take (p.length+4+q.length)).drop p.length=frq q:=by
 have hl:(p++frq q).length=p.length+4+q.length:=by rw[Jb,uP];omega
 rw[Bs h,Ql,Jc,List.take_left' hl,KP]
def Bu(h:q.length<=8392)(p r:List UInt8):unf (p++(frm q++r)) p.length=(q,((p.length+(q.length+8):Nat):Int),0):=by
 have h1:=Bt h p r;have h2:=Nh h p r;have h3:=Ni h p r;have hl:=om h;have hs:(p++(frm q++r)).length=p.length+(q.length+8)+r.length:=by rw[Jb,Jb,hl];omega
 unfold unf;rw[Kp,if_neg vz,if_neg vz,h1,if_neg vz,if_neg vz,h2,h3,if_neg vv]
 have e:((p++(frm q++r)).take (p.length+4+q.length)).drop (p.length+4)=q:=by
  rw[<-Kl,h3,frq,List.drop_left' (by rw[Qe];rfl)]
 grind
def Nj(h:q.length<=8392)(p:List UInt8)(k:Nat)(hk:k<q.length+8):(unf (p++(frm q).take k) p.length).2.2=5:=by
 have hl:=om h;have hs:(p++(frm q).take k).length=p.length+k:=by rw[Jb,Ju];omega
 unfold unf;rw[Kp,if_neg vz];by_cases h4:k<4
 ·rw[if_pos vz]
 have h1:=Bt h p []
 have h0:n4 (p++(frm q).take k) p.length=q.length:=by
  rw[<-h1];refine Br fun i hi=>?_;rw[Je,Je,Ki vz,Ki vz,J2,if_pos vz,Jk]
 rw[if_neg vz,h0,if_neg vz,if_pos vz]
def Nk(p:List UInt8):(unf p p.length).2.2=5:=by
 unfold unf;rw[Kp,if_neg vz,if_pos vz]
def Bv(s p:List UInt8)(n:Int)(k:Nat)(hk:k<=8)(hp:Ql p n k <+: s)(h:0<=n/\n<2 ^ (8*k)/\n<=9223372036854775807):dF s p.length k=n:=by
 obtain⟨t,rfl⟩:=hp;unfold dF;rw[nm p t n k hk k (Jp _)]
 have e:u64N n % 2 ^ (8*k)=n.toNat:=by
  have h1:u64N n=n.toNat:=by unfold u64N;omega
  have h2:((2:Int) ^ (8*k))=((2 ^ (8*k):Nat):Int):=by rw[Int.natCast_pow];rfl
  rw[h1];exact Nat.mod_eq_of_lt vz
 rw[e,IntKind.wrap_i64];omega
def At{t:List UInt8}(r:RS t)(p:List UInt8):Prop:=(r.e=5/\t.length<p.length)\/(r.e=0/\r.at_=p.length)
def gT(p:List UInt8)(n:Int)(k:Nat):p <+: Ql p n k:=JQ _ _
def Bw{t s p:List UInt8}(ht:t <+: s)(hp:p <+: s)(hl:p.length<=t.length):p <+: t:=List.prefix_of_prefix_length_le hp ht hl
def gg(ht:t <+: s)(n:Int)(k:Nat)(hk:k<=8)(hp:Ql p n k <+: s)(h:0<=n/\n<2 ^ (8*k)/\n<=9223372036854775807)(ha:At r p):
 At (aE t r k).2 (Ql p n k)/\((aE t r k).2.e=0->(aE t r k).1=n):=by
 have hl:=Qe p n k;unfold aE;rcases ha with⟨h1,h2⟩|⟨h1,h2⟩
 ·rw [if_neg vz];refine⟨.inl ⟨h1,vz⟩,fun h=>absurd (h1.symm.trans h) vj⟩
 ·rw [if_pos h1];split
  ·rename_i hb;refine⟨.inr ⟨rfl,vu⟩,fun _=>?_⟩;have e:r.at_.toNat=p.length:=vz;dsimp only;rw[e];exact Bv t p n k hk (Bw ht hp vz) h
  ·refine⟨.inl ⟨rfl,vz⟩,fun h=>absurd (show(5:Int)=0 from h) vj⟩
def Bx(ht:t <+: s)(hp:p++d <+: s){n:Int}(ha:At r p)(hn:r.e=0->n=d.length):
 At (eU t r n).2 (p++d)/\((eU t r n).2.e=0->(eU t r n).1=d):=by
 have hl:(p++d).length=p.length+d.length:=Jb;unfold eU;rcases ha with⟨h1,h2⟩|⟨h1,h2⟩
 ·rw [if_neg vz];refine⟨.inl ⟨h1,vz⟩,fun h=>absurd (h1.symm.trans h) vj⟩
 ·rw [if_pos h1];have hn:=hn h1;split
  ·rename_i hb;refine⟨.inr ⟨rfl,vu⟩,fun _=>?_⟩;have e:r.at_.toNat=p.length:=vz;have e2:(r.at_+n).toNat=(p++d).length:=vz;dsimp only;rw[e,e2];have:=Bw ht hp vz;rw[<-List.prefix_iff_eq_take.1 this,KP]
  ·refine⟨.inl ⟨rfl,vz⟩,fun h=>absurd (show(5:Int)=0 from h) vj⟩
def Bz(ht:t <+: s)(c:Ce)(hc:c.okB=true)(hp:bm p c <+: s)(ha:At r p):
 At (eV t r).2 (bm p c)/\((eV t r).2.e=0->(eV t r).1=c):=by
 obtain⟨set,data⟩:=c;simp only[Ce.okB,Jf,decide_eq_true_eq,JR,beq_iff_eq] at hc;unfold eV l9;unfold bm at hp |-;cases set
 ·simp only [J3,if_false] at hp |-;obtain⟨h1,h2⟩:=gg (r:=r) ht 255 1 vz hp ⟨vz,vz,vz⟩ ha;have hd:data=[]:=by rcases hc.2 with h|h;cases h;exact h
  subst hd;split
  ·rename_i h;exact absurd (h2 h.1) h.2
  ·exact⟨h1,fun _=>rfl⟩
 ·simp only [if_true] at hp |-;obtain⟨h1,h2⟩:=gg (r:=r) ht data.length 1 vz ((JQ _ _).trans hp) ⟨vz,vz,vz⟩ ha;split
  ·rename_i h;have h3:=h2 h.1;rw[if_neg vz];obtain⟨h4,h5⟩:=Bx ht hp h1 (n:=(aE t r 1).1) (fun _=>h3);exact⟨h4,fun h=>by rw[h5 h]⟩
  ·rename_i h;have h3:(aE t r 1).2.e≠0:=fun e=>h ⟨e,by rw[h2 e];omega⟩;rcases h1 with⟨h4,h5⟩|⟨h4,h5⟩
   ·refine ⟨.inl ⟨h4,?_⟩,fun e=>absurd e h3⟩;rw[Jb];omega
   ·exact absurd h4 h3
def gU(h:(aE t r k).2.e=0):r.e=0:=by
 unfold aE at h;grind
def Nl(h:(eU t r n).2.e=0):r.e=0:=by
 unfold eU at h;grind
def BA(h:(eV t r).2.e=0):r.e=0:=by
 unfold eV l9 at h;split at h
 ·rename_i hc;exact gU hc.1
 ·exact gU h
def Nm(e:E)(h:e.okB=true):(0<=e.lsn/\e.lsn<=1099511627776)/\(0<=e.kind/\e.kind<256)/\(0<=e.tx/\e.tx<4294967296)/\(0<=e.ptx/\e.ptx<=1099511627776)/\(0<=e.ppg/\e.ppg<=1099511627776)/\(0<=e.ref/\e.ref<=1099511627776)/\(0<=e.c.pg/\e.c.pg<64)/\(0<=e.c.sl/\e.c.sl<16)/\e.c.b.okB=true/\e.c.a.okB=true:=by
 obtain⟨lsn,kind,tx,ptx,ppg,ref,⟨pg,sl,⟨b1,b2⟩,⟨a1,a2⟩⟩,blob⟩:=e;simp only[E.okB,Jf,bef,decide_eq_true_eq] at h;obtain⟨h0,h⟩:=h;unfold E.kindB at h;dsimp only at h0 h |-;split at h
 ·simp[Ch.okB,Ce.okB,txB] at h |-;grind
 split at h
 ·simp[Ch.okB,Ce.okB,txB] at h |-;grind
 split at h
 ·simp[Ch.no,Ce.no,Ce.okB,txB] at h |-;grind
 split at h
 ·simp[Ch.no,Ce.no,Ce.okB] at h |-;grind
 split at h
 ·simp[Ch.ix,Ce.no,Ce.okB] at h |-;grind
 ·simp at h
def BB(p:List UInt8)(c:Ce):p <+: bm p c:=by
 unfold bm;split
 ·exact(gT _ _ _).trans (JQ _ _)
 ·exact gT _ _ _
def Nn(x:E)(h:x.okB=true)(ht:t <+: s)(hx:jt x <+: s):At (ga t).2 (jt x)/\((ga t).2.e=0->(ga t).1=x):=by
 obtain⟨i1,i2,i3,i4,i5,i6,i7,i8,i9,i10⟩:=Nm x h;obtain⟨l1,l2,l3⟩:=oa h;have a0:At (rs0 t) []:=.inr ⟨rfl,rfl⟩;have P10:Ql (bm (bm (cu x) x.c.b) x.c.a) x.blob.length 4 <+: s:=(JQ _ _).trans hx;have P9:bm (bm (cu x) x.c.b) x.c.a <+: s:=(gT _ _ _).trans P10;have P8:bm (cu x) x.c.b <+: s:=(BB _ _).trans P9;have PH:cu x <+: s:=(BB _ _).trans P8;unfold cu at PH P8 P9 P10;have P7:=(gT _ _ _).trans PH;have P6:=(gT _ _ _).trans P7;have P5:=(gT _ _ _).trans P6;have P4:=(gT _ _ _).trans P5;have P3:=(gT _ _ _).trans P4;have P2:=(gT _ _ _).trans P3;have P1:=(gT _ _ _).trans P2;obtain⟨b1,c1⟩:=gg (r:=rs0 t) ht x.lsn 8 vz P1 ⟨vz,vz,vz⟩ a0;obtain⟨b2,c2⟩:=gg ht x.kind 1 vz P2 ⟨vz,vz,vz⟩ b1;obtain⟨b3,c3⟩:=gg ht x.tx 4 vz P3 ⟨vz,vz,vz⟩ b2;obtain⟨b4,c4⟩:=gg ht x.ptx 8 vz P4 ⟨vz,vz,vz⟩ b3;obtain⟨b5,c5⟩:=gg ht x.ppg 8 vz P5 ⟨vz,vz,vz⟩ b4;obtain⟨b6,c6⟩:=gg ht x.ref 8 vz P6 ⟨vz,vz,vz⟩ b5;obtain⟨b7,c7⟩:=gg ht x.c.pg 4 vz P7 ⟨vz,vz,vz⟩ b6;obtain⟨b8,c8⟩:=gg ht x.c.sl 1 vz PH ⟨vz,vz,vz⟩ b7;obtain⟨b9,c9⟩:=Bz ht x.c.b i9 P8 b8;obtain⟨b10,c10⟩:=Bz ht x.c.a i10 P9 b9;obtain⟨b11,c11⟩:=gg ht x.blob.length 4 vz P10 ⟨vz,vz,vz⟩ b10;obtain⟨b12,c12⟩:=Bx ht hx b11 c11;unfold ga;dsimp only;refine⟨b12,fun e12=>?_⟩;have e11:=Nl e12;have e10:=gU e11;have e9:=BA e10;have e8:=BA e9;have e7:=gU e8;have e6:=gU e7;have e5:=gU e6;have e4:=gU e5;have e3:=gU e4;have e2:=gU e3;have e1:=gU e2;rw[c1 e1,c2 e2,c3 e3,c4 e4,c5 e5,c6 e6,c7 e7,c8 e8,c9 e9,c10 e10,c12 e12]
def Np(x:E)(h:x.okB=true):fA (jt x)=(x,0):=by
 obtain⟨h1,h2⟩:=Nn x h (Kq _) (Kq _);unfold fA;rcases h1 with⟨h3,h4⟩|⟨h3,h4⟩
 ·omega
 ·rw[if_pos h3,if_pos h4,h2 h3,if_pos h]
def rj(h:e.okB=true):(jt e).length<=8392:=by
 obtain⟨l1,l2,l3⟩:=oa h;have n1:=lW (cu e) e.c.b;have n2:=lW (bm (cu e) e.c.b) e.c.a;rw[qY] at n1;unfold jt;rw[Jb,Qe];omega
def BC(h:e.okB=true):frE e=frm (jt e):=by unfold frE gR;rw[if_pos h]
def Nq(h:e.okB=true)(p r:List UInt8):gf (p++(frE e++r)) p.length e.lsn=some (e,((p.length+(frE e).length:Nat):Int)):=by
 have h1:=Bu (rj h) p r;have h2:=Np e h;have hl:=om (rj h);rw[BC h];unfold gf;grind
def jx(l:Int)(es:List E):Prop:=∀i:Nat,i<es.length->(es.getD i E0).lsn=l+i/\(es.getD i E0).okB=true
def BD(h:jx l (e::r)):e.lsn=l/\e.okB=true/\jx (l+1) r:=by
 have h0:=h 0 vv;refine⟨by simpa using h0.1,by simpa using h0.2,fun i hi=>?_⟩;have:=h (i+1) (by simpa using hi);grind
def BE (r:List UInt8):∀(es:List E) (p:List UInt8) (l:Int) (n:Nat),jx l es->es.length<=n ->
 opn (p++(es.flatMap frE++r)) n p.length l=es++opn (p++(es.flatMap frE++r)) (n-es.length) ((p.length+(es.flatMap frE).length:Nat):Int) (l+es.length)
 |[],p,l,n,_,_=>by simp
 |e :: t,p,l,n,h,hn=>by
   obtain⟨h1,h2,h3⟩:=BD h;rw[JK] at hn;obtain⟨m,rfl⟩:∃m,n=m+1:=⟨n-1,vz⟩
   have hs:p++((e::t).flatMap frE++r)=p++(frE e++(t.flatMap frE++r)):=by rw[Jx];simp only[Jc]
   have hs2:p++((e::t).flatMap frE++r)=(p++frE e)++(t.flatMap frE++r):=by rw[Jx];simp only[Jc]
   have h4:=Nq h2 p (t.flatMap frE++r);rw[<-hs,h1] at h4;have ih:=BE r t (p++frE e) (l+1) m h3 vz;rw[<-hs2] at ih
   have e1:opn (p++((e::t).flatMap frE++r)) (m+1) p.length l=e::opn (p++((e::t).flatMap frE++r)) m ((p.length+(frE e).length:Nat):Int) (l+1):=by
    conv=>lhs;unfold opn
    rw[h4]
   rw[e1,<-Jb,ih,JK,Jx,Jb,Jb];rw[show m+1-(t.length+1)=m-t.length by omega,JP];congr 3
   ·omega
   ·omega
def BF(r:List UInt8):unf (cT f++r) 0=(Ql [80,77,76,71] f 8,20,0):=by
 have:=Bu (q:=Ql [80,77,76,71] f 8) (by rw[Qe];simp) [] r;rw[JI] at this;unfold cT;rw[show(([]:List UInt8).length:Int)=0 from rfl] at this;rw[this,Qe];rfl
def uR(f:Int):(cT f).length=20:=by
 unfold cT;rw[om (by rw[Qe];simp),Qe];rfl
def Nr(h:1<=f/\f<=1099511627776)(r:List UInt8):hdO (cT f++r)/\dF (unf (cT f++r) 0).1 4 8=f:=by
 have h1:=BF (f:=f) r;have h2:dF (Ql [80,77,76,71] f 8) 4 8=f:=Bv _ [80,77,76,71] f 8 vz (Kq _) ⟨vz,vz,vz⟩;unfold hdO;rw[h1];dsimp only;refine⟨⟨rfl,by rw[Qe];rfl,?_,vz,vz⟩,h2⟩;simp[Ql]
def Ns(h:1<=f/\f<=1099511627776)(he:jx f es)(hl:es.length<=4096)(r:List UInt8)(hr:es.length<4096->gf (cT f++(es.flatMap frE++r)) ((20+(es.flatMap frE).length:Nat):Int) (f+es.length)=none):bT (cT f++(es.flatMap frE++r))=(⟨f,es,f+es.length-1⟩,0):=by
 obtain⟨h1,h2⟩:=Nr h (es.flatMap frE++r);have h3:=BF (f:=f) (es.flatMap frE++r);have h4:=BE r es (cT f) f 4096 he hl;rw[uR] at h4
 have h5:ma (cT f++(es.flatMap frE++r))=es:=by
  unfold ma;rw[h2,h3];dsimp only;refine h4.trans ?_;by_cases hc:es.length<4096
  ·rw[Bq _ (hr hc),Jk]
  ·rw[show 4096-es.length=0 by omega];exact Jk _
 unfold bT;rw[if_pos h1,h2,h5]
def Nt(h:lgB x=true):jx x.f x.es:=by
 unfold lgB at h;simp only[Jf,Kr,J7] at h;intro i hi;have:=h.2 i hi;simpa [lgC] using this
def Nu{α:Type}(l:List α)(n i:Nat)(h:i<n)(d:α):(l.take n).getD i d=l.getD i d:=by
 grind
def Nv(h:jx l es)(n:Nat):jx l (es.take n):=fun i hi=>by
 rw[Ju] at hi;rw[Nu _ _ _ vz];exact h i vz
def BG:∀(es:List E) (t:Nat),∃j m,j<=es.length/\(es.flatMap frE).take t = (es.take j).flatMap frE ++ (frE (es.getD j E0)).take m/\(j < es.length->m < (frE (es.getD j E0)).length)/\(j = es.length->m = 0)
 |[],t=>⟨0,0,Jp _,vv,fun h=>absurd h vv,fun _=>rfl⟩
 |e :: r,t=>by
   by_cases h:t<(frE e).length
   ·refine ⟨0,t,JO _,?_,fun _=>by simpa using h,fun h=>absurd h vv⟩;rw[Jx,Jg vz];simp
   ·obtain ⟨j,m,h1,h2,h3,h4⟩:=BG r (t - (frE e).length);refine⟨j+1,m,by rw[JK];omega,?_,fun h=>?_,fun h=>?_⟩
    ·rw[Jx,List.take_append,JC vz,h2,KB,Jx,Kf,Jc]
    ·rw [JK] at h;rw[Kf];exact h3 vz
    ·rw [JK] at h;exact h4 vz
def BH:∀(es:List E),jx l es->l - 1<=d->d<=l + es.length - 1->(es.filter fun e=>decide (e.lsn<=d)) = es.take (d - l + 1).toNat/\(es.filter fun e=>!decide (e.lsn<=d)) = es.drop (d - l + 1).toNat
 |[],_,h1,h2=>by simp
 |e :: r,h,h1,h2=>by
   obtain⟨a1,a2,a3⟩:=BD h;rw[JK] at h2;by_cases hc:l<=d
   ·obtain ⟨b1,b2⟩:=BH (d:=d) (l:=l + 1) r a3 vz vz;obtain⟨k,hk,hk2⟩:∃k,(d-l+1).toNat=k+1/\(d-(l+1)+1).toNat=k:=⟨(d-l).toNat,vz,vz⟩
    rw[hk2] at b1 b2;rw[hk,KB,List.drop_succ_cons,Jv,Jv,if_pos vg,if_neg vg,b1,b2];exact⟨rfl,rfl⟩
   ·have hk:(d - l + 1).toNat = 0:=vz;rw[hk,JX,KA]
    have hall:∀x∈(e::r),¬x.lsn<=d:=fun x hx=>by
     obtain⟨i,hi,rfl⟩:=List.getElem_of_mem hx;have:=(h i hi).1;rw[Qd _ _ hi] at this;omega
    refine⟨List.filter_eq_nil_iff.2 fun x hx=>by have:=hall x hx;simp;omega,JE.2 fun x hx=>by have:=hall x hx;simp;omega⟩
def Nw(h:lgB x=true)(torn:Int):∃n,(x.d-x.f+1).toNat<=n/\n<=x.es.length/\bT (fY x torn)=(⟨x.f,x.es.take n,x.f+n-1⟩,0):=by
 have hh:=bz h;simp only[Lg.hd] at hh;have hs:=Nt h;obtain⟨f1,f2⟩:=BH (d:=x.d) (l:=x.f) x.es hs vz vz;unfold fY;rw[if_pos h];unfold fx fX;rw[f1,f2];generalize hk:(x.d-x.f+1).toNat=k;obtain⟨j,m,h1,h2,h3,h4⟩:=BG (x.es.drop k) torn.toNat;rw[JZ] at h1 h3 h4
 have hget:(x.es.drop k).getD j E0=x.es.getD (k+j) E0:=by
  rw[Je,Je,KC]
 have htk:x.es.take k++(x.es.drop k).take j=x.es.take (k+j):=by rw[<-List.take_add]
 have hlen:(x.es.take (k+j)).length=k+j:=by rw[Ju];omega
 refine⟨k+j,vz,vz,?_⟩;rw[h2,hget,Jc,<-Jc,<-Jc,Jc,Jc,<-Jc (List.flatMap frE _),<-Jw,htk]
 have:=Ns (f:=x.f) ⟨vz,vz⟩ (Nv hs (k+j)) (by rw[hlen]; omega) ((frE (x.es.getD (k+j) E0)).take m) (fun _=>Nc (by
  by_cases hc:j<x.es.length-k
  ·have h5:=h3 hc;rw[hget] at h5;have hok:=(hs (k+j) vz).2;rw[BC hok] at h5 |-;rw[om (rj hok)] at h5;have:=Nj (rj hok) (cT x.f++(x.es.take (k+j)).flatMap frE) m h5;rw[Jb,uR,Jc] at this;rw[this];decide
  ·rw [h4 vz,JX,Jk];have:=Nk (cT x.f++(x.es.take (k+j)).flatMap frE);rw[Jb,uR] at this
   rw[this]; decide))
 grind
def Ny(s:List UInt8):(bT s).1.es.length<=4096:=by
 unfold bT;split
 ·exact Bp _ _ _ _
 ·exact JO _
def CrR(x:Lg)(n m:Int)(k:Kn):Prop:=lgB x=true/\(1<=n/\n<=64)/\∃a lk,AnC x n x.es.length a/\kB (adK x (loF a lk) m)=true/\(adK x (loF a lk) m).pl.fs=[]/\(∀t∈(loF a lk).lo,iI x t lk)/\Abt (adK x (loF a lk) m) k/\∀b,0<=idT k.tx b->(QW k.tx b).st=3
def Nz(v:Dv)(hv:v.ps.length<=64)(s:List UInt8)(hs:s.length<=100000000)(n m:Int):VCalls prog 113 [.agg v.d,.pv (.str s),.int .i64 n,.int .i64 m] [] (QM svD fun r=>r.1.sm/\(r.2=0->(bT s).2=0/\CrR (bT s).1 n m r.1.k/\r.1.v=v)):=by
 refine dk Tryz.func113 ?_;have c1:=Nf s hs;have hl:=Ny s;generalize bT s=o at *;obtain⟨x,e0⟩:=o;dsimp only at hl c1 |-;have c2:=Mv x hl n;have c3:=fun a ha=>M9 x hl a ha m;have err:∀z,z≠0->QM svD (fun r=>r.1.sm/\(r.2=0->e0=0/\CrR x n m r.1.k/\r.1.v=v)) (svD (Sv0,z)) []:=fun z hz=>⟨rfl,rfl,(Sv0,z),rfl,fU,fun h=>absurd h hz⟩
 refine rn F ?_
 repeat' (first|with_reducible exact⟨⟩|(refine sB F ?_ ?_<;>intro hZ)|refine vp F (c1) ?_|(refine Qs (c2) rfl ?_;rintro⟨a,e1⟩ ha;refine rn F ?_)|(refine Qs (c3 a ha.1) rfl ?_;rintro⟨k,e2⟩ hk;refine rn F ?_))
 all_goals first
  |exact err _ vq
  | exact⟨rfl,rfl,(⟨k,v⟩,0),rfl,⟨hk.1,hv⟩,fun _=>⟨vq,by
   obtain⟨g1,g2,a0,lk,g3,g4,g6⟩:=ha.2 vq;have g5:=hk.2 vq;dsimp only at g4;subst g4
   exact⟨⟨g1,g2,a0,lk,g3,g5.1,g5.2.1,g6,g5.2.2⟩,rfl⟩⟩⟩
  |skip
def NA(v:Dv)(hv:v.ps.length<=64)(s:List UInt8)(hs:s.length<=100000000)(n m:Int):VCalls prog 86 [.agg v.d,.pv (.str s),.int .i64 n,.int .i64 m] [] (QM svD fun r=>r.1.sm/\(r.2=0->(bT s).2=0/\CrR (bT s).1 n m r.1.k/\r.1.v=v)):=by
 refine dk Tryz.func86 ?_;have c1:=Nz v hv s hs n m;generalize bT s=o at *;refine rn F ?_
 repeat' (first|with_reducible exact⟨⟩|(refine Qs (c1) rfl ?_;rintro⟨k,e⟩ hk;refine rn F ?_))
 all_goals first|exact⟨rfl,rfl,(k,e),rfl,hk⟩|skip
section
attribute [local go_sem] ba
@[go_sem] def crD(a:Dv×Lg×Int):DV:=.tup [.agg a.1.d,.pv (.str (fY a.2.1 a.2.2))]
def uS(s:Sv)(d:Int)(v:Dv):Prop:=v=s.v\/∃f∈s.k.pl.fs,∃cut:Nat,(1<=f.pg.lsn)/\(f.pg.lsn<=s.k.lg.end_->f.pg.lsn<=d)/\Q5 f.pg=0/\(0<=f.pg.id/\f.pg.id<s.v.ps.length)/\cut<=256/\(s.v.ps.getD f.pg.id.toNat []).length=256/\v.ps=s.v.ps.set f.pg.id.toNat ((pgB f.pg).take cut++(s.v.ps.getD f.pg.id.toNat []).drop cut)
def crQ(s:Sv)(a:Dv×Lg×Int):Prop:=a.1.ps.length<=64/\a.2.1.f=s.k.lg.f/\a.2.1.es=s.k.lg.es/\(lgB s.k.lg=true->lgB a.2.1=true)/\s.k.lg.d<=a.2.1.d/\(lgB s.k.lg=true->uS s a.2.1.d a.1)
def NB{f:Fm}(h:(f.pg.okB&&!(f.dirty&&(decide (f.rc<1)||decide (f.pg.lsn<f.rc)))&&a&&b)=true)(hd:f.dirty=true):1<=f.pg.lsn:=by
 grind
def NC (s:Sv) (hs:s.sm) (torn id cut:Int):VCalls prog 85 [.agg s.d,.int .i64 torn,.int .i64 id,.int .i64 cut] [] (QM crD (crQ s)):=by
 refine dk Tryz.func85 ?_;have c1:=ka s.k.pl (JS hs.1.2.1 vj) id;have hl:=hs.1.1;have c2:=A7 s.k.lg vz torn;have c3:=fun d=>A7 ⟨s.k.lg.f,s.k.lg.es,d⟩ vu torn;have h0:crQ s (s.v,s.k.lg,torn):=⟨hs.2,rfl,rfl,fun h=>h,J1 _,fun _=>.inl rfl⟩
 refine rn F ?_
 repeat' (first|with_reducible exact⟨⟩|(refine Qf (id:=1) [0,1,2,3] [⟨[4,5],[4],6,[2,3],[]⟩,⟨[5],[5],7,[],[]⟩] vw vw ?_;refine rn F ?_))
 refine vp hl c1 ?_;rcases nN s.k.pl id with hn|⟨hpl,i,hi,hfi,_,hfid⟩
 ·rw [hn];refine rn @hl ?_;refine rn F ?_
  repeat' (first|with_reducible exact⟨⟩|refine vp F (c2) ?_|(refine Qf (id:=9) [0,1,2,3] [⟨[],[],4,[0,1],[]⟩,⟨[],[],5,[1,2,3],[]⟩,⟨[],[],6,[],[]⟩] vw vw ?_;refine rn F ?_))
  exact⟨rfl,rfl,(s.v,s.k.lg,torn),rfl,h0⟩
 ·rw [hfi];have hg:=dQ s.k.pl.fs i hi;have hfr:=jj hpl hi;unfold frC at hfr;have hfm:s.k.pl.fs.getD i Fm0∈s.k.pl.fs:=by rw[Qd _ _ hi];exact J0 hi
  generalize s.k.pl.fs.getD i Fm0=f at *;have c4:=uo f.pg;have c5:=qy s.k hs.1 f.pg.lsn;refine rn @hg ?_;have c6:=fun b (hb:b.length<=256)=>Ig s.v (JS hs.2 vj) id b (JS hb vj) cut;have F:=@hg;refine rn F ?_
  repeat' (first|with_reducible exact⟨⟩|(refine sB F ?_ ?_<;>intro hZ)|refine vp F (c2) ?_|(refine Qs (c4) rfl ?_;rintro⟨b,e1⟩ hb;refine rn F ?_)|(refine Qs (c5) rfl ?_;rintro d hd;refine rn F ?_)|(refine Qs (c6 b hb.1) rfl ?_;rintro⟨v2,e2⟩ hv;refine rn F ?_)|refine vp F (c3 d) ?_|(refine Qf (id:=5) [0,1,2,3,4,5,6,7,8] [⟨[],[],9,[1,2,3,4,5,6,7],[]⟩,⟨[],[],10,[],[]⟩] vw vw ?_;refine rn F ?_)|(refine Qf (id:=9) [0,1,2,3] [⟨[],[],4,[0,1],[]⟩,⟨[],[],5,[1,2,3],[]⟩,⟨[],[],6,[],[]⟩] vw vw ?_;refine rn F ?_))
  all_goals first
   |exact⟨rfl,rfl,(s.v,s.k.lg,torn),rfl,h0⟩
   | (have g:=hv.2 wx
      have gp:=hb.2.1 (hb.2.2 g.2.1);obtain⟨g1,g2,g3,g4,g5⟩:=g;dsimp only at g1 g2 g3 g4 g5 gp
      exact⟨rfl,rfl,(v2,⟨s.k.lg.f,s.k.lg.es,d⟩,torn),rfl,hv.1,rfl,rfl,hd.2.1,hd.1,fun q=>.inr ⟨f,hfm,cut.toNat,NB hfr wy,fun w=>hd.2.2 q w,gp.1,by rw[hfid]; exact g1,vz,by rw[hfid]; exact g4,by rw[hfid,<- gp.2]; exact g5⟩⟩)
   |exact⟨rfl,rfl,(s.v,⟨s.k.lg.f,s.k.lg.es,d⟩,torn),rfl,hs.2,rfl,rfl,hd.2.1,hd.1,fun _=>.inl rfl⟩
   |skip
end
section
attribute [local go_sem] ba
def CrK(s s':Sv):Prop:=∃(d:Int) (j:Nat),s.k.lg.d<=d/\(d-s.k.lg.f+1).toNat<=j/\j<=s.k.lg.es.length/\uS s d s'.v/\CrR ⟨s.k.lg.f,s.k.lg.es.take j,s.k.lg.f+j-1⟩ s.k.pg s.k.pl.size s'.k
structure ICr(I:Nat->Sv->Prop):Prop where
 st:fy I
 ok:∀m s,I m s->lgB s.k.lg=true
 cr:∀m s s',CrK s s'->I m s->I (m+1) s'
def ND(hI:ICr I)(hf:y.f=s.k.lg.f)(he:y.es=s.k.lg.es)(hv:lgB s.k.lg=true->lgB y=true)(hd:s.k.lg.d<=y.d)(ht:lgB s.k.lg=true->uS s y.d v)(h:CrR (bT (fY y t)).1 s.k.pg s.k.pl.size s'.k)(hsv:s'.v=v)(m:Nat)(hm:I m s):I (m+1) s':=by
 have hok:=hI.ok m s hm;obtain⟨n,h1,h2,h3⟩:=Nw (hv hok) t;rw[h3] at h;dsimp only at h;rw[hf,he] at h;rw[hf] at h1;exact hI.cr m s s' ⟨y.d,n,hd,h1,by rw[<-he];omega,by rw[hsv];exact ht hok,h⟩ hm
def NF(hx:x.es.length<=4096)(t:Int):(fY x t).length<=100000000:=by
 have h9:=A6 x.f;have h8:=A4 x.es x.d;have h7:=A5 x.es x.d;unfold fY;grind
structure Tz(n:Nat) where
 i:Nat
 l:List Int
 hi:i<=n
 hl:l.length=n
def crI(I:Nat->Sv->Prop)(c:Sc)(n m:Nat)(c':Sc)(_:Rs):Prop:=m=0/\c'.sm n/\∀q,I q c.s->I (q+1) c'.s
def NG(I:Nat->Sv->Prop)(hIc:ICr I)(c:Sc)(n:Nat)(hn:n<=2000)(hc:c.sm n)(t:Sp):VCalls prog 62 [.ptr 0 0,.agg t.d] [scB c 1 2,scT c.tx,scR c.rd] (ScEnd rsD (crI I c n)):=by
 refine QT (fn:=Tryz.f62) Tryz.func62 rfl vw (by simp[Tryz.f62]) ?_;have c1:=NC c.s hc.1 t.torn t.pg t.cut;(unfold Tryz.f62;refine rn trivial ?_)
 refine rn F ?_
 repeat' (first|with_reducible exact⟨⟩|(refine Qs (c1) rfl ?_;rintro⟨v,y,tn⟩ hq;refine rn F ?_)|(refine eQ (id:=1) [[],[0],[0,1],[0,1,2],[],[4],[],[6],[],[8],[0,1,2,3,4,5,6,7,8,9],[0,1,2,3,4,5,6,7,8,9,10],[0,1,2,3,4,5,6,7,8,9,10,11],[0,1,2,3,4,5,6,7,8,9,10,11],[],[0,1,2,3,4,5,6,7,8,9,10,11,12,14],[0,1,2,3,4,5,6,7,8,9,10,11,12,13,14,15]] [0,1,2,3,4,5,6,7,8,9] [⟨[14],[],10,[],[11,12,13]⟩,⟨[14],[14],15,[13],[]⟩,⟨[],[],16,[],[]⟩] vw vw vw ?_;refine rn F ?_)|(refine eQ (id:=2) [[],[],[],[2],[2,3],[2,3,4],[2,3,4,5],[2,3,4,5,6],[],[8],[8,9],[8,9,10],[8,9,10,11],[8,9,10,11,12],[8,9,10,11,12,13],[0,1,2,3,4,5,6,7,8,9,10,11,12,13,14],[0,1,2,3,4,5,6,7,8,9,10,11,12,13,14,15],[0,1,2,3,4,5,6,7,8,9,10,11,12,13,14,15,16],[0,1,2,3,4,5,6,7,8,9,10,11,12,13,14,15,16],[],[0,1,2,3,4,5,6,7,8,9,10,11,12,13,14,15,16,17,19],[0,1,2,3,4,5,6,7,8,9,10,11,12,13,14,15,16,17,18,19,20]] [0,1,2,3,4,5,6,7,8,9,10,11,12,13,14] [⟨[19],[],15,[],[16,17,18]⟩,⟨[19],[19],20,[18],[]⟩,⟨[],[],21,[],[]⟩] vw vw vw ?_;refine rn F ?_))
 obtain⟨q1,q2,q3,q4,q5,q6⟩:=hq;dsimp only at q1 q2 q3 q4 q5 q6;have c2:=NA v q1 (fY y tn) (NF (by rw[q3];exact hc.1.1.1) tn) c.s.k.pg c.s.k.pl.size;have hI:=fun(s':Sv) (h:CrR (bT (fY y tn)).1 c.s.k.pg c.s.k.pl.size s'.k) (h2:s'.v=v)=>ND hIc q2 q3 q4 q5 q6 h h2;generalize fY y tn=str at *;generalize bT str=o at *;refine rn F ?_
 repeat' (first|with_reducible exact⟨⟩|(refine Qs (c2) rfl ?_;rintro⟨s2,e⟩ hk;refine rn F ?_))
 obtain⟨k1,k2⟩:=hk;dsimp only at k1 k2;refine Qj (fun r:Tz c.tx.length=>⟨70,3,[(9,.int .i64 r.i),(8,.int .i64 e),(7,.ptr 4 0),(4,.ptr 3 0),(0,.ptr 0 0)],[scB ⟨c.s,r.l,c.rd,c.dead⟩ 1 2,scT r.l,scR c.rd,⟨125,true,[.int .i64 0,.int .i64 0,.int .i64 0,.bool false,.pv (.str []),.int .i64 0]⟩,⟨77,true,s2.d⟩]⟩) (fun r=>c.tx.length-r.i) ⟨0,c.tx,JO _,rfl⟩ (gc [0,1,2,4,6]) ?_;rintro⟨i,l,hi,hl⟩;dsimp only;have hsm:∀(z:Sv) (d:Bool),z.sm->(⟨z,l,c.rd,d⟩:Sc).sm n:=fun z d hz=>⟨hz,by dsimp only;rw[hl];exact hc.2.1,hc.2.2⟩
 have htx:=hc.2.1;by_cases hil:i<c.tx.length
 ·have hil2:i < l.length:=vz;have hset:=BI l i 0;have F:=@hil2;refine rn F ?_;refine⟨⟨i+1,l.set i 0,hil,by rw[Kg];exact hl⟩,vu,?_⟩;dsimp only;rw[Kg];exact(gc [0,1,2,3,4])
 have hil2:¬i<l.length:=vz;by_cases he:e=0
 ·subst he;have c3:=ra 0;have F:=trivial;refine rn F ?_
  repeat' (first|with_reducible exact⟨⟩|refine vp F (c3) ?_)
  exact QI ⟨70,3,[(4,.ptr 3 0)],[scB ⟨s2,l,c.rd,c.dead⟩ 1 2,scT l,scR c.rd,⟨125,true,(bn 0).d⟩]⟩ (gc [0,1,2,3]) ⟨⟨s2,l,c.rd,c.dead⟩,bn 0,_,rfl,rfl,.inl ⟨⟨rfl,hsm s2 _ k1,hI s2 (k2 rfl).2.1 (k2 rfl).2.2⟩,rfl⟩⟩
 ·have c3:=ra e;have F:=@he;refine rn F ?_
  repeat' (first|with_reducible exact⟨⟩|refine vp F (c3) ?_)
  exact QI ⟨70,3,[(4,.ptr 3 0)],[scB ⟨c.s,l,c.rd,true⟩ 1 2,scT l,scR c.rd,⟨125,true,(bn e).d⟩]⟩ (gc [0,1,2,3]) ⟨⟨c.s,l,c.rd,true⟩,bn e,_,rfl,rfl,.inl ⟨⟨rfl,hsm c.s _ hc.1,fun q=>hIc.st q 1 _ _ (Sst.refl _)⟩,rfl⟩⟩
def NH(I:Nat->Sv->Prop)(hIc:ICr I)(c:Sc)(n:Nat)(hn:n<=2000)(hc:c.sm n)(t:Sp)(ht:t.kind=6):fZ I c n t:=by
 refine QT (fn:=Tryz.f41) Tryz.func41 rfl vw (by simp[Tryz.f41]) ?_;obtain⟨k,tx,pg,torn,cut,a⟩:=t;dsimp only at ht;subst ht;(unfold Tryz.f41;refine rn trivial ?_)
 refine ju (c:=c) 0 1 2 (NG I hIc c n hn hc ⟨6,tx,pg,torn,cut,a⟩) rfl rfl rfl vj vj vj rfl rfl ?_ (fun _ _ h=>absurd h.1 vj) (fun _ _ h=>absurd h.1 vj);rintro c1 r1 ⟨-,q1,q2⟩ B;refine rn trivial ?_;exact QI ⟨132,3,[(4,.ptr 3 0)],[scB c1 1 2,scT (Sc.tx c1),scR (Sc.rd c1),⟨125,true,Rs.d (r1)⟩]⟩ (gc [0,1,2,4]) ⟨c1,r1,_,rfl,rfl,.inl ⟨⟨⟨q1.1,JW q1.2.1,JW q1.2.2⟩,q2⟩,rfl⟩⟩
end
def b8(n:Int):List UInt8:=(JD 8).map (cH n)
def oo(n:Int):(b8 n).length=8:=by simp[b8]
theorem BJ(s:List UInt8)(n:Int):Ql s n 8=s++b8 n:=rfl
def gV(c:Ce):List UInt8:=(JD 1).map (cH (ceN c))++iD c
def oq(t:List UInt8)(p:Pg)(i:Nat):cq t p (i+1)=cq t p i++gV (p.cel i):=by
 show Ql (cq t p i) (ceN (p.cel i)) 1++iD (p.cel i)=_
 unfold Ql gV;rw[Jc]
def BK(h:c.data.length<=12):(gV c).length=13:=by
 unfold gV iD;simp;omega
def rk (t:List UInt8) (p:Pg) (h:∀i,i < 16->(p.cel i).data.length<=12):∀i,i<=16->(cq t p i).length = t.length + 13 * i
 |0,_=>rfl
 |i + 1,hi=>by
   rw[oq,Jb,rk t p h i vz,BK (h i vz)];omega
def uT(h:∀i,i<16->(p.cel i).data.length<=12):(fT p).length=244:=by
 unfold fT;rw[Jb,Ku,rk _ _ h 16 (Jp _),Qe,Qe];simp
theorem rm(p:Pg):pgB p=(fT p++(JD 4).map (cH (bY (fT p))))++b8 p.lsn:=rfl
def NI(h:∀i,i<16->(p.cel i).data.length<=12):(pgB p).length=256:=by
 rw[rm,Jb,Jb,uT h,oo];simp
def uU(h:∀i,i<16->(p.cel i).data.length<=12):(pgB p).drop 248=b8 p.lsn:=by
 rw[rm,JF (by rw[Jb,uT h];simp),JJ (by rw[Jb,uT h];simp),JI]
def BL (t:List UInt8) (p:Pg):∀i,∃r,cq t p i = t ++ r
 |0=>⟨[],by simp[cq]⟩
 |i + 1=>by
   obtain⟨r,hr⟩:=BL t p i;exact⟨r++gV (p.cel i),by rw[oq,hr,Jc]⟩
def uV(p:Pg):∃r,pgB p=b8 p.lsn++((JD 4).map (cH p.id)++r):=by
 obtain⟨r,hr⟩:=BL (Ql (Ql [] p.lsn 8) p.id 4) p 16
 have e:Ql (Ql [] p.lsn 8) p.id 4=b8 p.lsn++(JD 4).map (cH p.id):=by
  unfold Ql b8;simp
 rw[rm];unfold fT;rw[hr,e];grind
def kH(p:Pg):(pgB p).take 8=b8 p.lsn:=by
 obtain⟨r,hr⟩:=uV p;rw[hr,Jg (by rw[oo];omega),JC (by rw[oo];omega)]
def BM (t:List UInt8) (p:Pg) (h:∀i,i < 16->(p.cel i).data.length<=12):∀j,i < j->j<=16->((cq t p j).drop (t.length + 13 * i)).take 13 = gV (p.cel i)
 |0,hj,_=>absurd hj (Jq _)
 |j + 1,hj,h16=>by
   rw[oq];have hl:=rk t p h j vz;rcases Nat.lt_or_ge i j with q|q
   ·rw [JF vz,Jg (by rw [JZ];omega)];exact BM t p h j q vz
   ·obtain rfl:i = j:=vz;rw[JF vz,JJ vz,JI,JC (by rw[BK (h i vz)];exact Jp _)]
def BN(h:∀i,i<16->(p.cel i).data.length<=12)(hi:i<16):((pgB p).drop (12+13*i)).take 13=gV (p.cel i):=by
 have hl:=rk (Ql (Ql [] p.lsn 8) p.id 4) p h 16 (Jp _);have h12:(Ql (Ql [] p.lsn 8) p.id 4).length=12:=by rw[Qe,Qe];rfl
 have ha:=BM (Ql (Ql [] p.lsn 8) p.id 4) p h (i:=i) 16 hi (Jp _);rw[h12] at ha hl;rw[rm];unfold fT;rw[Jc,Jc,JF vz,Jg (by rw[JZ];omega)];exact ha
def mc(ha:0<=a/\a<=1099511627776)(hb:0<=b/\b<=1099511627776)(h:b8 a=b8 b):a=b:=by
 have h1:=mb [] [] a 8 (Jp _);have h2:=mb [] [] b 8 (Jp _);have e:Ql [] a 8=Ql [] b 8:=by rw[BJ,BJ,h]
 rw[e,h2] at h1;unfold u64N at h1;omega
def NJ(ha:0<=a/\a<64)(hb:0<=b/\b<64)(h:(JD 4).map (cH a)=(JD 4).map (cH b)):a=b:=by
 have h1:=mb [] [] a 4 vz;have h2:=mb [] [] b 4 vz;have e:Ql [] a 4=Ql [] b 4:=by unfold Ql;rw[h]
 rw[e,h2] at h1;unfold u64N at h1;omega
def BO(h:0<=n/\n<=255):(cH n 0).toNat=n.toNat:=by
 rw[xC n 0 vz];unfold u64N;omega
def NK(ha:a.okB=true)(hb:b.okB=true)(h:gV a=gV b):a=b:=by
 have la:a.data.length<=12/\(a.set=true\/a.data=[]):=by unfold Ce.okB at ha;simpa using ha
 have lb:b.data.length<=12/\(b.set=true\/b.data=[]):=by unfold Ce.okB at hb;simpa using hb
 unfold gV at h
 have h1:cH (ceN a) 0=cH (ceN b) 0:=by
  have:=congrArg (fun l=>l.getD 0 0) h;simpa using this
 have h2:iD a=iD b:=by
  have:=congrArg (fun l=>l.drop 1) h;simpa using this
 have r:∀c:Ce,c.data.length<=12->0<=ceN c/\ceN c<=255:=fun c hc=>by unfold ceN;split<;>omega
 have hn:ceN a=ceN b:=by
  have h3:=congrArg UInt8.toNat h1;rw[BO (r a la.1),BO (r b lb.1)] at h3;have:=r a la.1;have:=r b lb.1;omega
 obtain⟨sa,da⟩:=a;obtain⟨sb,db⟩:=b;dsimp only at la lb
 have hs:sa=sb:=by
  unfold ceN at hn;dsimp only at hn;cases sa<;>cases sb<;>simp at hn<;>first|rfl|(exfalso;omega)
 subst hs;congr 1;cases sa
 ·rw[la.2.resolve_left vj,lb.2.resolve_left vj]
 ·unfold ceN at hn;simp at hn;have hl:da.length=db.length:=vz;unfold iD at h2;dsimp only at h2;have this:(_:List UInt8).take da.length=(_:List UInt8).take da.length:=congrArg (fun l=>l.take da.length) h2;rw[Jg (Jp _),JG,hl,Jg (Jp _),JG] at this;exact this
def jy(h:Q5 p=0):(0<=p.id/\p.id<64)/\(0<=p.lsn/\p.lsn<=1099511627776)/\∀i,i<16->(p.cel i).okB=true/\(p.lsn=0->p.cel i=Ce0):=by
 have:=tS h;unfold Pg.okB Pg.numB Pg.celB at this;simp only[Jf,decide_eq_true_eq,Kr,J7] at this;refine⟨vz,vz,fun i hi=>?_⟩;have hc:=this.2 i hi;unfold Pg.celC at hc;simp only[Jf,Jy,Kv,decide_eq_false_iff_not] at hc;refine⟨hc.1,fun h0=>?_⟩;have hs:(p.cel i).set=false:=hc.2.resolve_left fun q=>q h0;have ho:=hc.1;unfold Ce.okB at ho;generalize p.cel i=c at *;obtain⟨s,d⟩:=c;dsimp only at hs;subst hs;simp at ho;unfold Ce0;rw[ho.2]
def me(h:Q5 p=0):∀i,i<16->(p.cel i).data.length<=12:=fun i hi=>zF h i hi
def BP(hp:Q5 p=0)(hq:Q5 q=0)(h:pgB p=pgB q):p.lsn=q.lsn/\p.id=q.id/\∀i,i<16->p.cel i=q.cel i:=by
 obtain⟨a1,a2,a3⟩:=jy hp;obtain⟨b1,b2,b3⟩:=jy hq;refine⟨mc a2 b2 (by rw[<-kH,<-kH,h]),?_,fun i hi=>?_⟩
 ·obtain ⟨r,hr⟩:=uV p;obtain⟨s,hs⟩:=uV q;rw[hr,hs] at h;have h8:(b8 p.lsn).length=(b8 q.lsn).length:=by rw[oo,oo]
  have h2:=(KM h h8).2;exact NJ a1 b1 (KM h2 vv).1
 ·refine NK (a3 i hi).1 (b3 i hi).1 ?_;rw[<-BN (me hp) hi,<-BN (me hq) hi,h]
def BQ(t:List UInt8)(h:∀i,i<16->p.cel i=q.cel i):∀i,i<=16->cq t p i=cq t q i
 |0,_=>rfl
 |i+1,hi=>by rw[oq,oq,BQ t h i vz,h i vz]
def NL(h1:p.lsn=q.lsn)(h2:p.id=q.id)(h3:∀i,i<16->p.cel i=q.cel i):pgB p=pgB q:=by
 have e:fT p=fT q:=by
  unfold fT;rw[h1,h2,BQ _ h3 16 (Jp _)]
 unfold pgB;rw[e,h1]
def NM(hx:Q5 x=0)(hx1:1<=x.lsn)(hc:cut<=256)(hl:old.length=256)(hold:old=JA 256 0\/∃q,RdP old q/\(q.lsn=x.lsn->pgB q=pgB x))(hy:RdP ((pgB x).take cut++old.drop cut) y):y.lsn=0\/pgB y=old\/pgB y=pgB x:=by
 obtain⟨y1,y2⟩:=hy;have lx:=NI (me hx);have bx:=(jy hx).2.1;have by_:=(jy y1).2.1;have hd:(pgB y).take 8=b8 y.lsn:=kH y;have ht:(pgB y).drop 248=b8 y.lsn:=uU (me y1);have htx:(pgB x).drop 248=b8 x.lsn:=uU (me hx);have z8:∀n:Int,0<=n/\n<=1099511627776->b8 n=JA 8 0->n=0:=fun n hn h=>mc hn ⟨vz,vz⟩ (h.trans vj);have lt:((pgB x).take cut).length=cut:=by rw[Ju];omega
 by_cases c1:cut<=248
 ·-- the end is the old one
  have e1:b8 y.lsn=old.drop 248:=by
   rw[<-ht,y2,KL,lt,Kl,JJ (by rw[lt];omega),JI];rw[show cut+(248-cut)=248 by omega]
  rcases hold with h0|⟨q,⟨q1,q2⟩,q3⟩
  ·left;refine z8 _ by_ ?_;rw[e1,h0,List.drop_replicate]
  have bq:=(jy q1).2.1;have e2:y.lsn=q.lsn:=mc by_ bq (by rw[e1,<-q2];exact uU (me q1));by_cases c2:cut<=8
  ·-- the head is the old one,too
   right;left
   have e3:(pgB y).take 8=old.take 8:=by rw[hd,e2,<-kH,q2]
   have e4:(pgB y).drop 8=old.drop 8:=by
    rw[y2,KL,lt,Kl,JJ (by rw[lt];omega),JI];rw[show cut+(8-cut)=8 by omega]
   rw[<-Jr 8 (pgB y),e3,e4,Jr]
  ·-- the head is the new one: the numbers are the same
   have e3:y.lsn=x.lsn:=mc by_ bx (by
    rw[<-hd,y2,Jg (by rw[lt];omega),J8,J4 vz]
    exact kH x)
   right;right
   have e4:=q3 vz;rw[y2,<-q2,e4,Jr]
 ·-- all but the end is the new one
  right;right
  have e3:y.lsn=x.lsn:=mc by_ bx (by
   rw[<-hd,y2,Jg (by rw[lt];omega),J8,J4 vz]
   exact kH x)
  have e4:(pgB y).take 248=(pgB x).take 248:=by rw[y2,Jg (by rw[lt];omega),J8,J4 vz]
  rw[<-Jr 248 (pgB y),e4,ht,e3,<-htx,Jr]
def NN(hc:CkV c)(hd:CkV d)(h:aP c=aP d):c.nx=d.nx:=by
 have h1:=(jr hc).1.2.2.1;have h2:=(jr hd).1.2.2.1;grind
def Cor.ckE(h:Cor es pg nx tx ix L)(h1:e.tx=0)(h2:e.kind=6)(hn:0<nx)(ht:al tx=true):Cor (es++[e]) pg nx tx ix L:=
 ⟨h.pgr,fun x hx=>by
  rcases Jh.1 hx with hx|hx
  ·exact h.ids x hx
  ·rw[JL.1 hx,h1];exact hn,fun t q=>(h.ok t q).other (by have:=As ht q;omega),fun x hx h0=>by
  rcases Jh.1 hx with hx|hx
  ·exact(h.all x hx h0).imp id fun q=>(iF _ _ _).2 (.inl q)
  ·rw[JL.1 hx] at h0;omega,h.len,fun p hp=>by
  rw[lT _ _ _ fun q=>by omega];exact h.row p hp,fun p n q=>by
  rw[lT _ _ _ fun q=>by omega];exact h.la p n q,h.lt,fun x hx h7=>by
  rcases Jh.1 hx with hx|hx
  ·exact h.w7 x hx h7
  ·rw[JL.1 hx] at h7; omega⟩
def Cor.zero(h1:1<=pg/\pg<=64)(L:Int->Int->Prop)(hL:∀p n,¬L p n):Cor [] pg nx [] (JA pg.toNat Rw0) L:=
 ⟨h1,fun e h=>by simp at h,fun t h=>by simp at h,fun x h=>by simp at h,by rw [Ku]; omega,fun p hp=>by
  have:(JA pg.toNat Rw0).getD p Rw0=Rw0:=by
   rw[Je,List.getElem?_replicate];split<;>rfl
  rw[this]
  exact⟨J1 _,fun _=>rfl⟩,fun p n h=>absurd h (hL p n),fun p n h=>absurd h (hL p n),fun e h=>by simp at h⟩
def NO(h1:1<=n)(h2:n<=64):KI (dh n m):=
 ⟨IU,rfl,LogOk.nil,Cor.zero ⟨h1,h2⟩ _ fun p n h=>by rcases h with⟨d,q,_⟩|⟨f,q,_⟩<;>simp[dh] at q,fun f q=>by simp[dh] at q⟩
def CkN(b:Int)(es:List E):Prop:=∀e∈es,e.kind=6->∀c,CkV c->e.blob=aP c->c.nx<=b
def NoteR.cor(h:NoteR a e b)(hc:Cor es a.pg a.nx a.lo a.ix (LD a.la))(he:EnOk es e)(hlt:∀x∈es,x.lsn<e.lsn):Cor (es++[e]) b.pg b.nx b.lo b.ix (LD b.la):=by
 obtain⟨h1,h2,h3,h4,h5,h6,h7,h8⟩:=h;rw[h1,h3,h6]
 have h1':∀p n,LD b.la p n->((e.kind=1\/e.kind=2)/\p=e.c.pg/\n=e.lsn)\/(LD a.la p n/\((e.kind=1\/e.kind=2)->p≠e.c.pg)):=fun p n q=>by
  by_cases hk:(e.kind=1\/e.kind=2)\/e.kind=7
  ·have D:=h8.2 hk;obtain⟨d,d1,d2,d3⟩:=q;rcases D.ha d d1 with⟨q1,q2⟩|⟨q1,q2,q3⟩|⟨q1,q2,z,q3,q4,q5,q6⟩
   ·exact .inr ⟨⟨d,q1,d2,d3⟩,fun _=>by rw[<-d2];exact q2⟩
   ·exact .inl ⟨by simpa using q2,vz,vz⟩
   ·exact .inr ⟨⟨z,q3,vz,vz⟩,fun h=>by
    have:(e.kind==1||e.kind==2)=true:=by simpa using h
    rw[this] at q2; cases q2⟩
  ·rw [h8.1 (fun h=>hk (.inl h)) (fun h=>hk (.inr h))] at q;exact .inr ⟨q,fun h=>absurd (.inl h) hk⟩
 have h2':∀p,(∀n,¬LD b.la p n)->((∀n,¬LD a.la p n)\/(e.kind=7/\p=e.c.pg))/\((e.kind=1\/e.kind=2)->p≠e.c.pg):=fun p q=>by
  by_cases hk:(e.kind=1\/e.kind=2)\/e.kind=7
  ·have D:=h8.2 hk;refine⟨?_,fun h hp=>?_⟩
   ·by_cases hp:p = e.c.pg
    ·by_cases h7':e.kind = 7
     ·exact .inr ⟨h7',hp⟩
     ·have hc1:e.kind = 1\/e.kind = 2:=hk.resolve_right h7';obtain⟨y,y1,y2⟩:=D.hc rfl (by simpa using hc1);exact absurd ⟨y,y1,vz,rfl⟩ (q y.last)
    ·refine .inl fun n ⟨d,d1,d2,d3⟩=>q n ⟨d,?_,d2,d3⟩;exact D.hb d (by rw[JG];exact d1) vz
   ·obtain ⟨y,y1,y2⟩:=D.hc rfl (by simpa using h);exact q y.last ⟨y,y1,vz,rfl⟩
  ·rw [h8.1 (fun h=>hk (.inl h)) (fun h=>hk (.inr h))] at q;exact⟨.inl q,fun h=>absurd (.inl h) hk⟩
 have h3':e.kind=7->∀n,¬LD b.la e.c.pg n:=fun h7' n ⟨d,d1,d2,d3⟩=>by
  have D:=h8.2 (.inr h7');rcases D.ha d d1 with⟨q1,q2⟩|⟨q1,q2,q3⟩|⟨q1,q2,z,q3,q4,q5,q6⟩
  ·exact q2 d2
  ·have:e.kind = 1\/e.kind = 2:=by simpa using q2
   omega
  ·have:=hc.la e.c.pg z.last ⟨z,q3,q4,rfl⟩;have:=he.ix h7';omega
 have hn:a.nx<=max a.nx (e.tx+1):=vz;rcases h4 with⟨q1,q2,q3⟩|⟨q1,q0,q2,q3⟩
 ·have hl1:=(qZ (lX q2).2)
  have hls:=Aw (lX q2).2;rw[q3];exact hc.add he.ix hlt vz q2 h5 hn vz h1' h2' h3'
 ·have hls:=Aw (lX q2).2;rw[q3]
  have hfr:∀x∈es,x.tx≠e.tx:=fun x hx hxe=>by
   rcases hc.all x hx vz with⟨t,t1,t2⟩|q
   ·have:=(lP (l:=a.lo) (a:=e.tx)).2 (JT.2 ⟨t,t1,vz⟩);omega
   ·rw[hxe] at q;exact he.ne q1.1 q
  exact(hc.beginT (J1 _) q0 hfr).add he.ix hlt vz q2 h5 hn vz h1' h2' h3'
section
attribute [local go_sem] cb cc
def NP(c:C)(m n:Nat)(h1:1<=m)(h2:m<=1000)(h3:1<=n)(h4:n<=1000):VCalls prog 42 [.ptr 0 0,.int .i64 m,.int .i64 n,.bool true] [cb c] (CX fun r=>∃t:Sp,r=.agg t.d):=by
 refine dd Tryz.func42 ?_;refine rn F ?_
 repeat' (first|with_reducible exact⟨⟩|(refine sB F ?_ ?_<;>intro hZ)|(refine aT (k:=0) (bQ _ 16 vz vz) rfl rfl ?_;rintro _ _ ⟨_,rfl,_⟩;refine rn F ?_)|(refine aT (k:=0) (bQ _ 4 vz vz) rfl rfl ?_;rintro _ _ ⟨_,rfl,_⟩;refine rn F ?_)|(refine aT (k:=0) (bQ _ 90 vz vz) rfl rfl ?_;rintro _ _ ⟨_,rfl,_⟩;refine rn F ?_)|(refine aT (k:=0) (bQ _ 257 vz vz) rfl rfl ?_;rintro _ _ ⟨_,rfl,_⟩;refine rn F ?_)|(refine aT (k:=0) (bQ _ m vz vz) rfl rfl ?_;rintro _ _ ⟨_,rfl,_⟩;refine rn F ?_)|(refine aT (k:=0) (bQ _ n vz vz) rfl rfl ?_;rintro _ _ ⟨_,rfl,_⟩;refine rn F ?_)|(refine aT (k:=0) (yr _ ((m:Int)+1) vz vz) rfl rfl ?_;rintro _ _ ⟨_,rfl,_⟩;refine rn F ?_)|(refine aT (k:=0) (MZ _ m h1 h2) rfl rfl ?_;rintro _ _ ⟨_,rfl,_⟩;refine rn F ?_))
 all_goals exact⟨_,rfl,rfl,gG _,rfl,⟨⟨_,_,_,_,_,⟨_,_,_,_⟩⟩,rfl⟩,_,rfl⟩
structure Sd1(most:Nat) where
 k:Nat
 c:C
 l:List Sp
 hk:k+l.length<=most+2
def NQ(c:C)(m most:Nat)(h1:1<=m)(h2:m<=1000)(hm:most<=1000):VCalls prog 33 [.ptr 0 0,.int .i64 m,.int .i64 most,.bool true] [cb c] (CX fun r=>∃l:List Sp,r=.pv (.sl (fz dC l))/\l.length<=most+2):=by
 refine dd Tryz.func33 ?_;refine rn F ?_;refine aT (k:=0) (c:=c) (yr c ((most:Int)+1) vz vz) rfl rfl ?_;rintro _ c1 ⟨k,rfl,hk⟩;refine rn trivial ?_;refine Qj (fun s:Sd1 most=>⟨30,1,[(10,.int .i64 s.k),(9,.own 1 9 0 s.l.length),(3,.bool true),(1,.int .i64 m),(0,.ptr 0 0)],[cb s.c,⟨130,true,cells dC s.l⟩]⟩) (fun s=>s.k) ⟨k,c1,[spB,spB],vg⟩ (gc [0,1]) ?_;rintro⟨k,c2,l,hk⟩;dsimp only;have hb:(l.length+1)*80<=140737488355328:=vz;by_cases hc:0<k
 ·obtain ⟨k,rfl⟩:∃k':Nat,k = k' + 1:=⟨k - 1,vz⟩
  have hkk:((k+1:Nat):Int)-1=k:=vz;have F:=(Ja @hb @hkk)
  refine rn F ?_;refine aT (k:=0) (c:=c2) (NP c2 m 5 h1 h2 vz vz) rfl rfl ?_;rintro _ c3 ⟨t,rfl⟩;have F:=(Ja @hb (Ja @M4 @hkk))
  refine rn F ?_;have hl2:(l++[t]).length=l.length+1:=vv;refine⟨⟨k,c3,l++[t],by rw[hl2];omega⟩,vu,?_⟩;dsimp only;rw[hl2];exact(gc [0,3])
 ·skip
  have F:=@hb;refine rn F ?_;exact⟨_,rfl,rfl,gG _,rfl,⟨l,rfl,vz⟩,_,rfl⟩
def NR(I:Nat->Sv->Prop)(hI:ICr I)(h0:∀(n m:Int) (v:Dv),1<=n->n<=4->1<=m->m<=64->(∀b∈v.ps,b=JA 256 0)->I 0 ⟨dh n m,v⟩)(c:C)(most:Nat)(hm:most<=1000):VCalls prog 16 [.ptr 0 0,.int .i64 most,.bool true] [cb c] (CX fun r=>∃s:Sv,r=.agg s.d/\s.sm/\∃i,i<=most+2/\I i s):=by
 refine dd Tryz.func16 ?_;refine rn F ?_;refine aT (k:=0) (c:=c) (bQ c 4 vz vz) rfl rfl ?_;rintro _ c1 ⟨x,rfl,hx⟩;obtain⟨m,hm1,hm2⟩:∃m:Nat,1+(x:Int)=m/\m<=4:=⟨1+x,vz,vz⟩
 refine rn @hm1 ?_;refine aT (k:=0) (c:=c1) (bQ c1 3 vz vz) rfl rfl ?_;rintro _ c2 ⟨y,rfl,hy⟩;refine rn trivial ?_;refine Qs (M3 m (1+y) vz vz) rfl ?_;rintro⟨s,e⟩ ⟨hs,he,hg,hb⟩;dsimp only at hs he hg hb;subst he;refine rn F ?_
 repeat' (first|with_reducible exact⟨⟩|(refine Qf (id:=3) [0,1,2,3,4] [⟨[],[],5,[0],[]⟩,⟨[],[],6,[1,2,3,4],[7,8,9,10]⟩,⟨[],[],11,[9,10],[]⟩] vw vw ?_;refine rn F ?_))
 refine aT (k:=0) (c:=c2) (NQ c2 m most vz vz hm) rfl rfl ?_;rintro _ c3 ⟨l,rfl,hl⟩;have c9:=MU I hI.st s hs l (fun i _ hk c n hn hc=>NH I hI c n hn hc _ hk);refine rn trivial ?_;refine Qs c9 rfl ?_;rintro⟨s1,out,rd⟩ ⟨q1,q2⟩;refine rn trivial ?_
 exact⟨_,rfl,rfl,gG _,rfl,⟨s1,rfl,q1,by
  obtain⟨i,q3,q4⟩:=q2 (by obtain⟨sk,sv⟩:=s;dsimp only at hg;subst hg;exact h0 _ _ sv vz vz vz vz hb)
  exact⟨i,vz,q4⟩⟩,_,rfl⟩
def NS(I:Nat->Sv->Prop)(hI:ICr I)(h0:∀(n m:Int) (v:Dv),1<=n->n<=4->1<=m->m<=64->(∀b∈v.ps,b=JA 256 0)->I 0 ⟨dh n m,v⟩)(c:C)(most:Nat)(hm:most<=1000):VCalls prog 7 [.ptr 0 0,.int .i64 most,.bool true] [cb c] (CX fun r=>∃s:Sv,r=.agg s.k.d/\s.k.sm/\∃i,i<=most+2/\I i s):=by
 refine dd Tryz.func7 ?_;refine rn F ?_;refine aT (k:=0) (c:=c) (NR I hI h0 c most hm) rfl rfl ?_;rintro _ c1 ⟨s,rfl,hs,hi⟩;refine rn trivial ?_;exact⟨_,rfl,rfl,gG _,rfl,⟨s,rfl,hs.1,hi⟩,_,rfl⟩
end
def AnC.cor (h:AnC x n i a) (hv:lgB x = true) (hf:x.f = 1) (hlog:LogOk x.es) (hb1:1<=b) (hb2:∀e ∈ x.es,e.tx < b) (hb3:CkN b x.es) (hn:1<=n/\n<=64):
 a.pg=n/\a.nx<=b/\∃m:Nat,a.cp=m/\m<=x.es.length/\Cor (x.es.take (max i m)) n a.nx a.lo a.ix (LD a.la):=by
 induction h with
 |@init a h =>
   obtain⟨h1,h2⟩:=h;refine⟨h1,?_⟩;rcases h2 with⟨_,q2,q3,q4,q5,q6⟩|⟨i0,l1,l2,l3,l4,l5⟩
   ·refine ⟨vz,0,vz,JO _,?_⟩;rw[Nat.max_self,JX,q4,q6];exact Cor.zero hn _ fun p m ⟨d,q,_⟩=>by rw[q5] at q;simp at q
   ·have hat:=Q8 hv l1;have hm:x.es.getD i0 E0∈x.es:=by rw[Qd _ _ l1];exact J0 l1
    rcases(hlog i0 l1).ck l2 with q|⟨c,c1,c2,c3⟩
    ·exact absurd q l4
    obtain⟨g1,g2,g3,g4,g5⟩:=l5 c c1 c2;have hnx:=hb3 _ hm l2 c c1 c2;refine⟨vz,i0+1,by rw[l3,hat.1,hf];omega,l1,?_⟩;rw[Nat.max_eq_right (JO _),Jl l1,<-Qd _ _ l1 E0,g2,g3,g4,g5,<-g1];refine c3.ckE ?_ l2 (by have:=c1.2.1;omega) c1.2.2.1;by_cases h:(x.es.getD i0 E0).tx=0
    ·exact h
    ·have:=nG hat.2 h;omega
 |@skip i a h hi hl ih =>
   obtain⟨h1,h2,m,h3,h4,h5⟩:=ih;have hat:=(Q8 hv hi).1;refine⟨h1,h2,m,h3,h4,?_⟩;rw[show max (i+1) m=max i m by omega];exact h5
 |@note i a b' h hi hl hr ih =>
   obtain⟨h1,h2,m,h3,h4,h5⟩:=ih;have hat:=(Q8 hv hi).1;obtain⟨r1,r2,r3,_⟩:=id hr;have hm:x.es.getD i E0∈x.es:=by rw[Qd _ _ hi];exact J0 hi
   have:=hb2 _ hm;refine⟨vz,vz,m,vz,h4,?_⟩;rw[show max i m=i by omega,<-h1] at h5;rw[show max (i+1) m=i+1 by omega,Jl hi,<-Qd _ _ hi E0]
   have hc:=hr.cor h5 (hlog i hi) fun y hy=>by
    obtain⟨j,hj,rfl⟩:=Ka.1 hy;rw[Ju] at hj;rw[List.getElem_take];have:=(Q8 hv (i:=j) vz).1;rw[Qd _ _ vz] at this;omega
   rw[r1,h1] at hc;exact hc
def NT(hv:lgB x=true)(hf:x.f=1)(hlog:LogOk x.es)(hfs:(adK x (loF a lk) m).pl.fs=[])(hc:Cor x.es a.pg a.nx a.lo a.ix (LD a.la)):KI (adK x (loF a lk) m):=by
 have hL:∀p n,LkK (adK x (loF a lk) m) p n ↔ LD a.la p n:=fun p n=>by
  unfold LkK;rw[hfs];constructor
  ·rintro (h|⟨f,h,_⟩)
   ·exact h
   ·simp at h
  ·intro h;exact .inl h
 have hc2:=hc.weak (J1 _) (L':=LkK (adK x (loF a lk) m)) (fun p n q=>(hL p n).1 q) fun p q n h=>q n ((hL p n).2 h);refine⟨hv,hf,hlog,hc2.same (J1 _) (fun t q=>hc.ok t (Ji.1 q).1) fun y hy h0 ⟨t,q1,q2⟩=>⟨t,Ji.2 ⟨q1,?_⟩,q2⟩,fun f q=>by rw[hfs] at q;simp at q⟩;have:=uz x.es (a:=t.id) (fun z hz=>(jl hv hf hz).1) ⟨y,hy,q2.symm⟩;have:=(hc.ok t q1).n;simp;omega
def CkN.snoc(h:CkN b es)(he:e.kind=6->∀c,CkV c->e.blob=aP c->c.nx<=b):CkN b (es++[e]):=fun x hx=>by
 rcases Jh.1 hx with hx|hx
 ·exact h x hx
 ·rw[JL.1 hx];exact he
def CkN.mono(h:CkN b es)(hb:b<=b'):CkN b' es:=fun e he h6 c hc hq=>KV (h e he h6 c hc hq) hb
def c16(e:E):Bool:=decide (e.kind=1)||decide (e.kind=6)
structure CI(m:Nat)(k:Kn):Prop where
 nx:k.nx<=1+m
 ck:CkN (1+m) k.lg.es
 n16:(k.lg.es.filter c16).length<=m
 no8:∀e∈k.lg.es,e.kind≠8
def CI.mono(h:CI m k)(hm:m<=m'):CI m' k:=⟨by have:=h.nx;omega,h.ck.mono vz,JS h.n16 hm,h.no8⟩
def CI.app(h:CI m k)(ha:AddOk k e e')(h1:k'.nx=k.nx)(h2:k'.lg.es=k.lg.es++[e'])(h6:e'.kind=6->∀c,CkV c->e'.blob=aP c->c.nx<=1+(m+n:Nat))(hn:e.kind=1\/e.kind=6->1<=n)(h8:e.kind≠8):CI (m+n) k':=by
 have s:=ha.2.1.1;refine⟨by rw[h1];have:=h.nx;omega,by rw[h2];exact(h.ck.mono vz).snoc h6,?_,fun x hx=>?_⟩
 ·rw [h2,Kj,Jb];have:=h.n16;by_cases hc:c16 e'=true
  ·have hk:e.kind = 1\/e.kind = 6:=by unfold c16 at hc;rw [s] at hc;simpa using hc
   have:=hn hk;rw[List.filter_cons_of_pos hc,JU,Kt];omega
  ·rw [List.filter_cons_of_neg hc,JU,List.length_nil];omega
 ·rw [h2] at hx;rcases Jh.1 hx with hx|hx
  ·exact h.no8 x hx
  ·rw[JL.1 hx,s];exact h8
def CI.add(h:CI m k)(ha:AddOk k e e')(h1:k'.nx=k.nx)(h2:k'.lg.es=k.lg.es++[e'])(hk:e.kind=2\/e.kind=3\/e.kind=4\/e.kind=5\/e.kind=7):CI m k':=
 h.app (n:=0) ha h1 h2 (fun q=>by have:=ha.2.1.1;omega) (fun q=>by omega) vz
def Stp.ci (h:Stp n k k') (hc:CI m k):CI (m + n) k':=by
 cases h with
 |begin v hb=>exact⟨by have:=hc.nx;show k.nx+1<=_;omega,hc.ck.mono vz,JW hc.n16,hc.no8⟩
 |fin ha h3 hf=>exact hc.add ha rfl rfl vz
 |ckpt ha h6 hk =>
   refine hc.app ha rfl rfl (fun _ c c1 c2=>?_) (fun _=>Jp _) vz;rw[ha.2.1.2.2.2.2] at c2;rcases hk with q|⟨c0,q1,q2,q3⟩
   ·have:=(jr c1).1.1;rw[<-c2,q] at this;simp at this
   ·have:=NN c1 q2 (c2.symm.trans q3);rw[this,q1.nx];have:=hc.nx;omega
 |@change _ e e' ha h1 hs _ hu=>exact hc.app (k':=k.set e') ha rfl rfl (fun q=>by have:=ha.2.1.1;omega) (fun _=>Jp _) vz
 |undo ha h2 hs hu=>exact hc.add ha rfl rfl vz
 |undol u ha h2 hs hu _ =>
   have q:=hc.add (k':=k.set _) ha rfl rfl vz;exact⟨q.nx,q.ck,q.n16,q.no8⟩
 |wrt ha h7 hw=>exact hc.add ha rfl rfl vz
 |lock u _=>exact⟨hc.nx,hc.ck,hc.n16,hc.no8⟩
 |save a h=>exact⟨hc.nx,hc.ck,hc.n16,hc.no8⟩
 |back a b h=>exact⟨hc.nx,hc.ck,hc.n16,hc.no8⟩
 |rem a _ hi hn=>exact⟨hc.nx,hc.ck,hc.n16,hc.no8⟩
 |pool p hs=>exact⟨hc.nx,hc.ck,hc.n16,hc.no8⟩
 |drop a h=>exact⟨hc.nx,hc.ck,hc.n16,hc.no8⟩
 |force d _ h=>exact⟨hc.nx,hc.ck,hc.n16,hc.no8⟩
def Str.ci(h:Str n k k')(hc:CI m k):CI (m+n) k':=by
 induction h generalizing m with
 |refl k=>exact hc.mono vz
 |step _ h2 ih=>rw[<-KR];exact h2.ci (ih hc)
def PutK.ci(h:PutK k x k')(hc:CI m k):CI m k':=by cases h<;>exact⟨hc.nx,hc.ck,hc.n16,hc.no8⟩
def CrR.go{m:Nat}{j:Nat}(hj:j<=k.lg.es.length)(h:CrR ⟨k.lg.f,k.lg.es.take j,k.lg.f+j-1⟩ k.pg k.pl.size k')(hk:KI k)(hc:CI m k):KI k'/\CI m k':=by
 obtain⟨hv,hn,a,lk,h1,h2,h3,_,h4,_⟩:=h;have hsub:∀e∈k.lg.es.take j,e∈k.lg.es:=fun e he=>Kb he;have hckn:CkN (1+m) (k.lg.es.take j):=fun e he=>hc.ck e (hsub e he);have hnx:=hc.nx;obtain⟨g1,g2,mm,g3,g4,g5⟩:=h1.cor hv hk.f (hk.log.take j) (b:=1+m) vz (fun e he=>by have:=hk.cor.ids e (hsub e he);omega) hckn hn;dsimp only at g4 g5;rw[JC (l:=k.lg.es.take j) vz,<-g1] at g5;have hK:=NT (lk:=lk) (m:=k.pl.size) hv hk.f (hk.log.take j) h3 g5;have:=h4.str.ci (m:=m) ⟨g2,hckn,JS ((List.take_sublist j k.lg.es).filter _).length_le hc.n16,fun e he=>hc.no8 e (hsub e he)⟩;exact⟨h4.str.KI hK,this⟩
section
def PgIs(es:List E)(x:Pg):Prop:=0<=x.lsn/\x.lsn<=es.length/\∀i:Nat,i<16->x.cel i=bG (es.take x.lsn.toNat) x.id i
def PgIs.zero(h0:x.lsn=0)(hc:∀i:Nat,i<16->x.cel i=Ce0):PgIs es x:=⟨vz,vz,fun i hi=>by rw[h0,hc i hi];rfl⟩
def PgIs.up(h:PgIs es x)(hp:es <+: es'):PgIs es' x:=by
 obtain⟨t,rfl⟩:=hp;obtain⟨h1,h2,h3⟩:=h;refine⟨h1,by rw[Jb];omega,fun i hi=>?_⟩;grind
def PgIs.cut{j:Nat}(h:PgIs es x)(hj:x.lsn<=j):PgIs (es.take j) x:=by
 obtain⟨h1,h2,h3⟩:=h;refine⟨h1,by rw[Ju];omega,fun i hi=>?_⟩;grind
def PgIs.same(h:PgIs es x)(h1:y.lsn=x.lsn)(h2:y.id=x.id)(h3:∀i,i<16->y.cel i=x.cel i):PgIs es y:=by
 unfold PgIs;rw[h1,h2];exact⟨h.1,h.2.1,fun i hi=>(h3 i hi).trans (h.2.2 i hi)⟩
def NU(es:List E)(h:∀x∈es,1<=x.lsn)(p:Int):0<=aV es p:=by
 revert h
 refine gQ (P:=fun es=>(∀x∈es,1<=x.lsn)->0<=aV es p) (fun _=>J1 _) (fun l a ih h=>?_) es;rw[gO];grind
section
variable {x:Lg} (hv:lgB x=true) (hf:x.f=1)
include hv hf in
theorem uW (p s:Int):∀n,n<=x.es.length->bG (x.es.take n) p s = bG (x.es.take (aV (x.es.take n) p).toNat) p s
 |0,_=>by rw[JX];rfl
 |n + 1,h=>by
   have ha:=(Q8 hv (i:=n) vz).1;have ih:=uW p s n vz;rw[Jl (show n<x.es.length by omega),<-Qd _ _ vz E0,gO];split
   ·rename_i hc;rw[ha,hf,show(1+(n:Int)).toNat=n+1 by omega,Jl (show n<x.es.length by omega),<-Qd _ _ vz E0]
   ·rename_i hc;rw[uG _ _ _ _ fun q=>hc ⟨q.1,q.2.1⟩];exact ih
include hv hf in
theorem NV(p:Int):0<=aV x.es p/\aV x.es p<=x.es.length:=by
 have h1:=NU x.es (fun y hy=>(jl hv hf hy).1) p
 have h2:=Ao x.es (n:=(x.es.length:Int)+1) vz p fun y hy=>by
  have:=(jl hv hf hy).2.1;unfold Lg.end_ at this;omega
 omega
include hv hf in
theorem PgIs.last{y:Pg}(h1:y.lsn=aV x.es y.id):PgIs x.es y ↔ ∀i:Nat,i<16->y.cel i=bG x.es y.id i:=by
 have hr:=NV hv hf y.id;have hl:=fun s=>uW hv hf y.id s x.es.length (Jp _);rw[JG] at hl;unfold PgIs;grind
include hv hf in
theorem RedoR.is (hlog:LogOk x.es) {p q:Pg} (h:RedoR x p q) (hp:PgIs x.es p):PgIs x.es q:=by
 induction h with
 |refl=>exact hp
 |@step q e _ he hk hpg hpp ih =>
   obtain⟨j,hj,rfl⟩:=Ka.1 he;have ha:=Q8 hv hj;rw[Qd _ _ hj] at ha;have hl:=(hlog j hj).ppg;rw[Qd _ _ hj] at hl;have hsl:=qF ha.2 hk;obtain⟨i1,i2,i3⟩:=ih;unfold PgIs;dsimp only;rw[ha.1,hf];refine⟨vz,vz,fun i hi=>?_⟩;rw[show(1+(j:Int)).toNat=j+1 by omega,Jl hj,kv];show(if i=(x.es[j]).c.sl.toNat then (x.es[j]).c.a else q.cel i)=_
   by_cases c:i=(x.es[j]).c.sl.toNat
   ·rw[if_pos c,if_pos ⟨hk,hpg,vz⟩]
   ·rw [if_neg c,if_neg (fun w=>c (by have:=w.2.2;omega)),i3 i hi,uW hv hf q.id i j vz];rw[<-hpg,<-hl hk,hpp]
end
def BR(hk:KI k)(hj:KJ k)(hf:f∈k.pl.fs):PgIs k.lg.es f.pg:=(PgIs.last hk.lg hk.f (hk.fr f hf)).2 (hj.cel f hf)
structure DvI(s:Sv):Prop where
 pg:∀p:Nat,p<s.v.ps.length->∀y,RdP (s.v.ps.getD p []) y->y.id=p->y.lsn<=s.k.lg.d/\PgIs s.k.lg.es y
 rd:∀f∈s.k.pl.fs,(0<=f.pg.id/\f.pg.id<s.v.ps.length)->s.v.ps.getD f.pg.id.toNat []=JA 256 0\/∃q,RdP (s.v.ps.getD f.pg.id.toNat []) q/\q.id=f.pg.id
def Stp.frs (h:Stp n k k'):∀f ∈ k'.pl.fs,∃g ∈ k.pl.fs,g.pg.id = f.pg.id:=by
 have self:∀f∈k.pl.fs,∃g∈k.pl.fs,g.pg.id=f.pg.id:=fun f q=>⟨f,q,rfl⟩
 have upd:∀x:Pg,(aO k.pl x).2=0->∀f∈(aO k.pl x).1.fs,∃g∈k.pl.fs,g.pg.id=f.pg.id:=fun x hu f hf=>by
  obtain⟨_,u2,u3⟩:=AD hu;obtain⟨i,hi,rfl⟩:=Ka.1 hf;have:=u3 i;rw[Qd _ _ hi,Qd _ _ vz] at this;exact⟨_,J0 vz,this.symm⟩
 cases h with
 |change ha h1 hs hx hu=>exact upd _ hu
 |undo ha h2 hs hu=>exact upd _ hu
 |undol u ha h2 hs hu hl=>exact upd _ hu
 |wrt ha h7 hw=>exact fun f q=>by obtain⟨g,g1,g2⟩:=AB ha h7 hw f q;exact⟨g,g1,by rw[g2]⟩
 |pool p hs=>exact fun f q=>by obtain⟨g,g1,g2,_⟩:=hs.mem q;exact⟨g,g1,by rw[g2]⟩
 |drop a h =>
   obtain⟨i,_,hf⟩:=uE h;intro f q;rw[hf] at q;rcases Jh.1 q with q|q
   ·exact⟨f,Kb q,rfl⟩
   ·exact⟨f,Kz q,rfl⟩
 |_=>exact self
def BT(l:List (List UInt8))(i j:Nat)(s:List UInt8)(hi:i<l.length):(l.set i s).getD j []=if i=j then s else l.getD j []:=by
 grind
structure SI(s:Sv):Prop where
 ki:KI s.k
 kj:KJ s.k
 dv:DvI s
def Lg.end1{x:Lg}(hf:x.f=1):x.end_=x.es.length:=by unfold Lg.end_;omega
def Sst.SI {n:Nat} {s s':Sv} (h:Sst n s s') (hs:SI s):SI s':=by
 induction h with
 |refl s=>exact hs
 |@kern n m s s1 k' _ h2 ih =>
   obtain⟨i1,i2,i3⟩:=ih hs;refine⟨h2.KI i1,LI h2 i1 i2,fun p hp y hy hid=>?_,fun f hf hr=>?_⟩
   ·obtain ⟨a1,a2⟩:=i3.pg p hp y hy hid;exact⟨KV a1 h2.ev.d,a2.up h2.ev.pre⟩
   ·obtain ⟨g,g1,g2⟩:=h2.frs f hf;have:=i3.rd g g1 (by rw[g2];exact hr);rwa [g2] at this
 |@put n s s1 x0 x k' _ h1 h2 h3 h4 ih =>
   obtain⟨i1,i2,i3⟩:=ih hs
   have hrng:x.lsn=dX s1.k x.id/\kB s1.k=true/\0<=x.id/\x.id<s1.k.pg:=by
    cases h4 with
    |put v hr hl _ _=>exact⟨hl,v,hr⟩
    |putl v hr hl _ _=>exact⟨hl,v,hr⟩
   obtain⟨hl,v,hr⟩:=hrng;rw[i1.head v hr.1 hr.2] at hl
   have h0:PgIs s1.k.lg.es x0:=by
    obtain⟨e1,⟨e2,e3⟩|e2⟩:=h2
    ·rw[e3];exact PgIs.zero rfl fun _ _=>rfl
    ·exact(i3.pg x.id.toNat vz x0 e2 vz).2
   have hx:=RedoR.is i1.lg i1.f i1.log h3 h0;have hcel:=(PgIs.last i1.lg i1.f hl).1 hx;have hlg:=h4.lg;refine⟨h4.KI i1,h4.KJ i2 hcel,fun p hp y hy hid=>by dsimp only;rw[hlg];exact i3.pg p hp y hy hid,fun f hf hr2=>?_⟩;rcases h4.sub f hf with q|q
   ·exact i3.rd f q hr2
   ·rw [q] at hr2 |-;obtain⟨e1,⟨e2,_⟩|e2⟩:=h2
    ·exact .inl e2
    ·exact .inr ⟨x0,e2,e1⟩
 |@dev n s s1 f v' _ h1 h2 h3 h4 h5 ih =>
   obtain⟨i1,i2,i3⟩:=ih hs;have hfi:=BR i1 i2 h1;have hlen:v'.ps.length=s1.v.ps.length:=by rw[h5,Kg]
   have hgd:=fun j=>BT s1.v.ps f.pg.id.toNat j (pgB f.pg) vz;refine⟨i1,i2,fun p hp y hy hid=>?_,fun g hg hr=>?_⟩
   ·dsimp only at hp hy |-;rw[h5,hgd] at hy;split at hy
    ·obtain ⟨y1,y2⟩:=hy;obtain⟨e1,e2,e3⟩:=BP y1 h3 y2;exact⟨by rw[e1];exact h2 (by rw[Lg.end1 i1.f];exact hfi.2.1),hfi.same e1 e2 e3⟩
    ·exact i3.pg p vz y hy hid
   ·dsimp only at hr |-;rw[h5,hgd];split
    ·exact .inr ⟨f.pg,⟨h3,rfl⟩,vz⟩
    ·exact i3.rd g hg vz
end
section
attribute [local go_sem] cb cc
structure AbF(k k':Kn)(as1:List E):Prop where
 lg:k'.lg=⟨k.lg.f,k.lg.es++as1,k.lg.d⟩
 k4:∀e∈as1,e.kind=4
 pl:k'.pl=k.pl
 lk:k'.lk=k.lk
 pg:k'.pg=k.pg
 tx:∀a,0<=idT k'.tx a->0<=idT k.tx a/\∀n∈(QW k'.tx a).l,n∈(QW k.tx a).l
 lb:LogB k.lg.es->LogB k'.lg.es
def Abt.facts (h:Abt k k'):∃as1,AbF k k' as1:=by
 induction h with
 |refl=>exact⟨[],by rw[Jk],fun e h=>by simp at h,rfl,rfl,rfl,fun a h=>⟨h,fun n q=>q⟩,id⟩
 |@step k1 e e' h1 ha h4 hf ih =>
   obtain⟨as1,i1,i2,i3,i4,i5,i6,i7⟩:=ih;have hk:e'.kind=4:=by rw[ha.2.1.1];exact h4
   refine⟨as1++[e'],?_,fun x hx=>?_,i3,i4,i5,fun a q=>?_,fun hl=>(i7 hl).snoc (EnB.none vz)⟩
   ·show (⟨k1.lg.f,k1.lg.es ++ [e'],k1.lg.d⟩:Lg) = _
    rw[i1,Jc]
   ·rcases Jh.1 hx with hx|hx
    ·exact i2 x hx
    ·rw[JL.1 hx];exact hk
   ·obtain ⟨w1,w2,w3⟩:=uF ha.2.2.2.2.2.1 q;obtain⟨v1,v2⟩:=i6 a w1;exact⟨v1,fun n hn=>(w3 n hn).elim (v2 n) fun c=>by omega⟩
def NW(h:RdP (JA 256 0) y):y.lsn=0:=by
 obtain⟨h1,h2⟩:=h;have h3:=kH y;rw[h2,List.take_replicate] at h3;exact mc (jy h1).2.1 ⟨vz,vz⟩ (h3.symm.trans vj)
def CrK.SI{m:Nat}{s s':Sv}(h:CrK s s')(hs:SI s)(hc:CI m s.k):SI s'/\CI m s'.k/\s'.k.pg=s.k.pg:=by
 obtain⟨d,j,hd,hj1,hj2,hT,hR⟩:=h;obtain⟨hK,hC⟩:=hR.go hj2 hs.ki hc;obtain⟨hv,hn,a,lk,h1,h2,h3,h6,h4,h5⟩:=hR;have hf:=hs.ki.f;have hes:=hs.ki.lg;obtain⟨as1,F⟩:=h4.facts;have hsub:∀e∈s.k.lg.es.take j,e∈s.k.lg.es:=fun e he=>Kb he
 have hapg:a.pg=s.k.pg:=by
  have hckn:CkN (1+m) (s.k.lg.es.take j):=fun e he=>hc.ck e (hsub e he);have hnx:=hc.nx;exact(h1.cor hv hf (hs.ki.log.take j) (b:=1+m) vz (fun e he=>by have:=hs.ki.cor.ids e (hsub e he);omega) hckn hn).1
 have hpg:s'.k.pg=s.k.pg:=by rw[F.pg];exact hapg
 have e1:(adK ⟨s.k.lg.f,s.k.lg.es.take j,s.k.lg.f+j-1⟩ (loF a lk) s.k.pl.size).lg=⟨s.k.lg.f,s.k.lg.es.take j,s.k.lg.f+j-1⟩:=rfl;have hlg:=F.lg;rw[e1] at hlg;dsimp only at hlg;have hpl:s'.k.pl.fs=[]:=by rw[F.pl];exact h3
 have hmem1:∀x∈s'.k.lg.es,x.kind≠4->x∈s.k.lg.es.take j:=fun x hx hk=>by
  rw[hlg] at hx;rcases Jh.1 hx with hx|hx
  ·exact hx
  ·exact absurd (F.k4 x hx) hk
 have hjd:s'.k.lg.d=j:=by rw[hlg,hf];dsimp only;omega
 have hdj:d<=j:=by rw[hf] at hj1;omega
 have hup:∀y,PgIs s.k.lg.es y->y.lsn<=j->y.lsn<=s'.k.lg.d/\PgIs s'.k.lg.es y:=fun y hy hl=>by
  refine⟨by rw[hjd];exact hl,(hy.cut hl).up ?_⟩;rw[hlg];exact JQ _ _
 refine⟨⟨hK,⟨?_,fun f q=>by rw[hpl] at q;simp at q,fun b pg sl hN=>?_,fun x hx hk=>?_⟩,fun p hp y hy hid=>?_,fun f q=>by rw[hpl] at q;simp at q⟩,hC,hpg⟩
 ·exact F.lb (hs.kj.log.take j)
 ·obtain ⟨n1,x,x1,x2,x3,x4,x5,x6⟩:=hN;have hx:=hmem1 x x1 vz;have hl:=x6.resolve_left fun c=>c (h5 b n1);obtain⟨w1,w2⟩:=F.tx b n1;obtain⟨g1,g2⟩:=iG w1;obtain⟨t1,t2,t3⟩:=h6 _ g1 x.lsn (w2 _ hl);have hge:=zc (x:=⟨s.k.lg.f,s.k.lg.es.take j,s.k.lg.f+j-1⟩) hv hx;rw[hge] at t3;rw[g2,x4,x5] at t3;rw[F.lk];exact t3
 ·rw [hpg];exact hs.kj.pgs x (hsub x (hmem1 x hx vz)) hk
 ·rcases hT with hT|⟨f,f1,cut,f2,f3,f4,f5,f6,f7,f8⟩
  ·rw [hT] at hp hy;obtain⟨a1,a2⟩:=hs.dv.pg p hp y hy hid;exact hup y a2 vz
  ·have hfi:=BR hs.ki hs.kj f1;have hfd:f.pg.lsn<=d:=f3 (by rw[Lg.end1 hf];exact hfi.2.1);have hlen:s'.v.ps.length=s.v.ps.length:=by rw[f8,Kg]
   rw[f8,BT _ _ _ _ vz] at hy;split at hy
   ·rename_i hpe
    have hold:s.v.ps.getD f.pg.id.toNat []=JA 256 0\/∃q,RdP (s.v.ps.getD f.pg.id.toNat []) q/\(q.lsn=f.pg.lsn->pgB q=pgB f.pg):=by
     rcases hs.dv.rd f f1 f5 with q|⟨q,q1,q2⟩
     ·exact .inl q
     ·refine .inr ⟨q,q1,fun q3=>?_⟩;have hq:=(hs.dv.pg f.pg.id.toNat vz q q1 vz).2;exact NL q3 q2 fun i hi=>by rw[hq.2.2 i hi,hfi.2.2 i hi,q3,q2]
    rcases NM f4 f2 f6 f7 hold hy with q|q|q
    ·exact hup y (PgIs.zero q fun i hi=>((jy hy.1).2.2 i hi).2 q) vz
    ·obtain ⟨a1,a2⟩:=hs.dv.pg p vz y ⟨hy.1,by rw [<-hpe];exact q⟩ hid;exact hup y a2 vz
    ·obtain ⟨e1,e2,e3⟩:=BP hy.1 f4 q;exact hup y (hfi.same e1 e2 e3) vz
   ·obtain ⟨a1,a2⟩:=hs.dv.pg p vz y hy hid;exact hup y a2 vz
def I1(m:Nat)(s:Sv):Prop:=SI s/\CI m s.k/\s.k.pg<=4
def Sst.ci(h:Sst n s s')(hc:CI m s.k):CI (m+n) s'.k:=by
 induction h generalizing m with
 |refl s=>exact hc.mono vz
 |kern _ h2 ih=>rw[<-KR];exact h2.ci (ih hc)
 |put _ _ _ _ h4 ih=>exact h4.ci (ih hc)
 |dev _ _ _ _ _ _ ih=>exact ih hc
def Stp.pg(h:Stp n k k'):k'.pg=k.pg:=by cases h<;>rfl
def Sst.pg(h:Sst n s s'):s'.k.pg=s.k.pg:=by
 induction h with
 |refl s=>rfl
 |kern _ h2 ih=>exact h2.pg.trans ih
 |put _ _ _ _ h4 ih=>refine Eq.trans ?_ ih;cases h4<;>rfl
 |dev _ _ _ _ _ _ ih=>exact ih
def I1_cr:ICr I1:=
 ⟨fun n m s s' h hi=>⟨h.SI hi.1,h.ci hi.2.1,by rw [h.pg]; exact hi.2.2⟩,fun m s h=>h.1.ki.lg,fun m s s' h hi=>by
  obtain⟨h1,h2,h3⟩:=h.SI hi.1 hi.2.1
  exact⟨h1,h2.mono vz,by rw[h3]; exact hi.2.2⟩⟩
def NX(n m:Int)(v:Dv)(h1:1<=n)(h2:n<=4)(hb:∀b∈v.ps,b=JA 256 0):I1 0 ⟨dh n m,v⟩:=by
 refine⟨⟨NO h1 vz,⟨LogB.nil,fun f q=>by simp[dh] at q,fun a pg sl h=>?_,fun e he=>by simp[dh,Lg1] at he⟩,fun p hp y hy hid=>?_,fun f q=>by simp[dh] at q⟩,⟨by show(1:Int)<=_;omega,fun e he=>by simp[dh,Lg1] at he,by simp[dh,Lg1],fun e he=>by simp[dh,Lg1] at he⟩,h2⟩
 ·obtain ⟨_,x,x1,_⟩:=h;simp[dh,Lg1] at x1
 ·have hr:v.ps.getD p [] = JA 256 0:=hb _ (by rw [Qd _ _ hp];exact J0 hp);dsimp only at hy;rw[hr] at hy;have h0:=NW hy;exact⟨by rw[h0];exact J1 _,PgIs.zero h0 fun i hi=>((jy hy.1).2.2 i hi).2 h0⟩
end
structure LwB(es:List E):Prop where
 ok:LogOk es
 b:LogB es
 lt:es.Pairwise fun x y=>x.lsn<y.lsn
 tx:∀e∈es,(e.kind=1\/e.kind=2\/e.kind=3)->0<e.tx
def LwB.split(w:LwB (h++e::r)):EnOk h e/\EnB h e:=by
 have h1:=w.ok h.length vv;have h2:=w.b h.length vv;grind
def LwB.front(w:LwB (h++r)):LwB h:=
 ⟨by have:=w.ok.take h.length;rwa [JY] at this,by have:=w.b.take h.length;rwa [JY] at this,(Js.1 w.lt).1,fun e he=>w.tx e (Jd _ he)⟩
def LwB.cs(w:LwB es)(p s:Int):∃b,Cs es p s b:=by
 revert w
 refine gQ (P:=fun es=>LwB es->∃b,Cs es p s b) (fun _=>⟨_,Cs.nil p s⟩) (fun l e ih w=>?_) es;obtain⟨b,hb⟩:=ih w.front;obtain⟨h1,h2⟩:=LwB.split (r:=[]) w;obtain⟨h3,_,h4⟩:=Js.1 w.lt;exact hb.snoc h1 h2 h3 (fun x hx=>h4 x hx e vv) (w.tx e vv)
def LwB.bef{h r:List E}{e:E}(w:LwB (h++e::r))(hk:e.kind=1\/e.kind=2){C:Int->Bool}(hC:∀a,bB h a->C a=true)(hT:C e.tx=true):e.c.b=dB h C e.c.pg e.c.sl:=by
 obtain⟨ho,hb⟩:=w.split;obtain⟨b,hc⟩:=w.front.cs e.c.pg e.c.sl;rw[hb.bef hk];have h0:0<e.tx:=w.tx e vv vz
 have hown:∀x∈stC h e.c.pg e.c.sl,x.tx=e.tx:=by
  rcases hk with hk|hk
  ·intro x hx;obtain⟨m1,m2,⟨m3,m4⟩,m5,m6⟩:=(hc.mem x).1 hx;by_cases q:x.tx=e.tx
   ·exact q
   ·rcases hb.own hk x m1 m2 m3 m4 q with w|⟨_,w⟩
    ·exact absurd w m6
    ·exact absurd m5 w
  ·obtain ⟨u1,x,x1,x2,x3,x4,x5,x6⟩:=ho.un hk;have hxs:x∈stC h e.c.pg e.c.sl:=(hc.mem x).2 ⟨x1,x3,⟨by rw[x5],by rw[x5]⟩,by rw[x2,x4];exact u1,by rw[x4];exact ho.ne h0⟩;exact fun y hy=>by rw[hc.own y hy x hxs,x4]
 by_cases hn:stC h e.c.pg e.c.sl=[]
 ·have h1:=hc.stk;rw[hn] at h1;rw[hc.out C hC (by rw[hn];simp)];exact h1
 ·exact(hc.inn C hC (fun x hx=>by rw[hown x hx];exact hT) hn).symm
def LwB.pre(w:LwB (h++e::r))(hg:g∈h++e::r)(hl:g.lsn<e.lsn):g∈h:=by
 rcases Jh.1 hg with q|q
 ·exact q
 ·obtain ⟨_,h2,_⟩:=Js.1 w.lt;rcases Jj.1 q with rfl|q
  ·omega
  ·have:=(Jt.1 h2).1 g q;omega
def LwB.lth(w:LwB (h++e::r))(hg:g∈h):g.lsn<e.lsn:=(Js.1 w.lt).2.2 g hg e vv
def LwB.uniq(w:LwB es)(hx:x∈es)(hy:y∈es)(h:x.lsn=y.lsn):x=y:=by
 obtain⟨a,b,rfl⟩:=JM hx;rcases Jh.1 hy with q|q
 ·have:=w.lth q;omega
 ·rcases Jj.1 q with q|q
  ·exact q.symm
  ·have:=(Jt.1 (Js.1 w.lt).2.1).1 y q;omega
def LwB.noend(w:LwB es)(hg:g∈es)(he:e∈es)(ht:g.tx=e.tx)(h0:0<e.tx)(hk:g.kind=3\/g.kind=5):¬g.lsn<e.lsn:=by
 intro hl;obtain⟨a,b,rfl⟩:=JM he;exact w.split.1.ne h0 ⟨g,w.pre hg hl,ht,hk⟩
def LwB.noab(w:LwB es)(hc:bB es a):¬abE es a:=by
 rintro⟨g,hg,hga,hgk⟩;obtain⟨c,hc,hck,hct⟩:=hc;have h0:0<c.tx:=w.tx c hc vz;rcases KE g.lsn c.lsn with q|q|q
 ·obtain ⟨u,v,rfl⟩:=JM hc;have:=w.split.1.ab h0 ⟨g,w.pre hg q,vz,hgk⟩;omega
 ·rw[w.uniq hg hc q] at hgk;omega
 ·exact w.noend hc hg vz vz (.inl hck) q
def LwB.first(w:LwB es)(hx:x∈es)(ho:onC p s x):∃y∈es,y.kind=1/\y.tx=x.tx/\onC p s y/\y.lsn<=x.lsn:=by
 rcases ho.1 with k|k
 ·exact⟨x,hx,k,rfl,ho,J1 _⟩
 ·obtain ⟨h,r,rfl⟩:=JM hx;obtain⟨_,y,y1,y2,y3,y4,y5,_⟩:=w.split.1.un k;exact⟨y,Jd _ y1,y3,y4,⟨.inl y3,by rw[<-ho.2.1,y5],by rw[<-ho.2.2,y5]⟩,Int.le_of_lt (w.lth y1)⟩
def LwB.order(w:LwB es)(hx:x∈es)(hy:y∈es)(hc:c∈es)(hd:d∈es)(hxo:onC p s x)(hyo:onC p s y)(hck:c.kind=3)(hdk:d.kind=3)(hct:c.tx=x.tx)(hdt:d.tx=y.tx)(hcd:c.lsn<d.lsn):x.lsn<y.lsn:=by
 have h0x:0<x.tx:=w.tx x hx (by have:=hxo.1;omega);have h0y:0<y.tx:=w.tx y hy (by have:=hyo.1;omega);have hne:x.tx≠y.tx:=fun q=>w.noend hc hd vz vz (.inl hck) hcd;obtain⟨x',x1,x2,x3,x4,x5⟩:=w.first hx hxo
 obtain⟨y',y1,y2,y3,y4,y5⟩:=w.first hy hyo
 have hxab:=w.noab (a:=x.tx) ⟨c,hc,hck,hct⟩;have hyab:=w.noab (a:=y.tx) ⟨d,hd,hdk,hdt⟩;apply Classical.byContradiction
 intro hl;rcases KE x'.lsn y'.lsn with q|q|q
 ·obtain ⟨h,r,rfl⟩:=JM y1;have hxh:=w.pre x1 q;rcases w.split.2.own y2 x' hxh x2 (by rw[x4.2.1,y4.2.1]) (by rw[x4.2.2,y4.2.2]) vz with⟨g,g1,g2,g3⟩|⟨⟨g,g1,g2,g3⟩,_⟩
  ·have:=w.lth g1;exact w.noend (Jd _ g1) hx vz h0x g3 vz
  ·exact hxab ⟨g,Jd _ g1,vz,g3⟩
 ·have:=w.uniq x1 y1 q;rw[this] at x3;omega
 ·obtain ⟨h,r,rfl⟩:=JM x1;have hyh:=w.pre y1 q;rcases w.split.2.own x2 y' hyh y2 (by rw[x4.2.1,y4.2.1]) (by rw[x4.2.2,y4.2.2]) vz with⟨g,g1,g2,g3⟩|⟨⟨g,g1,g2,g3⟩,_⟩
  ·have h1:=w.lth g1;have h2:=w.noend hc x1 vz vz (.inl hck);exact w.noend (Jd _ g1) hd vz vz g3 vz
  ·exact hyab ⟨g,Jd _ g1,vz,g3⟩
def BU {l l':List E} (h:l.Pairwise fun x y=>x.lsn < y.lsn) (h':l'.Pairwise fun x y=>x.lsn < y.lsn) (he:∀x,x ∈ l ↔ x ∈ l'):l = l':=by
 induction l generalizing l' with
 |nil =>
   cases l' with
   |nil=>rfl
   |cons a r=>exact absurd ((he a).2 vv) vv
 |cons a r ih =>
   cases l' with
   |nil=>exact absurd ((he a).1 vv) vv
   |cons b t =>
     obtain⟨p1,p2⟩:=Jt.1 h;obtain⟨q1,q2⟩:=Jt.1 h'
     have hab:a=b:=by
      rcases Jj.1 ((he a).1 vv) with q|q
      ·exact q
      ·rcases Jj.1 ((he b).2 vv) with z|z
       ·exact z.symm
       ·have:=p1 b z;have:=q1 a q;omega
     subst hab;rw[ih p2 q2 fun x=>?_];constructor
     ·intro hx;rcases Jj.1 ((he x).1 (Jm _ hx)) with q|q
      ·have:=p1 x hx;rw[q] at this;omega
      ·exact q
     ·intro hx;rcases Jj.1 ((he x).2 (Jm _ hx)) with q|q
      ·have:=q1 x hx;rw[q] at this;omega
      ·exact q
def ot(l:List E):Ce:=l.foldl (fun _ e=>e.c.a) Ce0
def NY(l:List E)(e:E):ot (l++[e])=e.c.a:=by unfold ot;rw[List.foldl_append];rfl
def onT(p s a:Int)(e:E):Bool:=decide (onC p s e/\e.tx=a)
def onS(p s:Int)(C:Int->Bool)(e:E):Bool:=decide (onC p s e/\C e.tx=true)
def BV (es:List E) (C:Int->Bool) (p s:Int):dB es C p s = ot (es.filter (onS p s C)):=by
 unfold dB ot;generalize Ce0=v;induction es generalizing v with
 |nil=>rfl
 |cons e r ih =>
   rw[KN,Jv];by_cases q:onC p s e/\C e.tx=true
   ·rw[if_pos q,if_pos (show onS p s C e=true from decide_eq_true q),KN];exact ih _
   ·rw[if_neg q,if_neg (show ¬onS p s C e=true by unfold onS;simpa using q)];exact ih _
def ao(es:List E):List E:=es.filter fun e=>decide (e.kind=3)
def kJ(es:List E)(F:List E)(p s:Int):List E:=F.flatMap fun c=>es.filter (onT p s c.tx)
def kK(es:List E)(F:List E)(t:Int)(i:Nat)(p s:Int):List E:=kJ es F p s++(es.take i).filter (onT p s t)
def mem_serL{es F:List E}{p s:Int}{x:E}:x∈kJ es F p s ↔ ∃c∈F,x∈es/\onC p s x/\x.tx=c.tx:=by
 unfold kJ;rw[J9];simp only[Ji,onT,decide_eq_true_eq]
def LwB.fil(w:LwB es)(f:E->Bool):(es.filter f).Pairwise fun x y=>x.lsn<y.lsn:=w.lt.filter f
def LwB.serP {es:List E} (w:LwB es) {F:List E} (hF:F.Pairwise fun x y=>x.lsn < y.lsn) (hm:∀c ∈ F,c ∈ es/\c.kind = 3) (p s:Int):(kJ es F p s).Pairwise fun x y=>x.lsn < y.lsn:=by
 induction F with
 |nil=>exact KS.nil
 |cons c r ih =>
   obtain⟨h1,h2⟩:=Jt.1 hF;show(es.filter _++kJ es r p s).Pairwise _
   refine Js.2 ⟨w.fil _,ih h2 fun d hd=>hm d (Jm _ hd),fun x hx y hy=>?_⟩;obtain⟨d,hd,hy1,hy2,hy3⟩:=mem_serL.1 hy;obtain⟨hx1,hx2⟩:=Ji.1 hx;unfold onT at hx2;rw[decide_eq_true_eq] at hx2;obtain⟨c1,c2⟩:=hm c vv;obtain⟨d1,d2⟩:=hm d (Jm _ hd);exact w.order hx1 hy1 c1 d1 hx2.1 hy2 c2 d2 hx2.2.symm hy3.symm (h1 d hd)
def LwB.mid{h r F1 F2:List E}{e c:E}(w:LwB (h++e::r))(hF:ao (h++e::r)=F1++c::F2)(hk:e.kind=1\/e.kind=2)(ht:e.tx=c.tx){C:Int->Bool}(hC:∀a,C a=true ↔ bB (h++e::r) a):kK (h++e::r) F1 c.tx h.length e.c.pg e.c.sl=h.filter (onS e.c.pg e.c.sl C):=by
 have hm:∀d∈F1++c::F2,d∈h++e::r/\d.kind=3:=fun d hd=>by
  rw[<-hF] at hd;obtain⟨d1,d2⟩:=Ji.1 hd;exact⟨d1,by simpa using d2⟩
 have hs:(F1++c::F2).Pairwise fun x y=>x.lsn<y.lsn:=by rw[<-hF];exact w.fil _
 obtain⟨s1,s2,s3⟩:=Js.1 hs;obtain⟨c1,c2⟩:=hm c vv;have hme:e∈h++e::r:=vv;have hon:onC e.c.pg e.c.sl e:=⟨hk,rfl,rfl⟩
 unfold kK;rw[JY];refine BU (Js.2 ⟨w.serP s1 (fun d hd=>hm d (Jd _ hd)) _ _,w.front.fil _,fun x hx y hy=>?_⟩) (w.front.fil _) fun x=>?_
 ·obtain ⟨d,hd,hx1,hx2,hx3⟩:=mem_serL.1 hx;obtain⟨hy1,hy2⟩:=Ji.1 hy;unfold onT at hy2;rw[decide_eq_true_eq] at hy2;obtain⟨d1,d2⟩:=hm d (Jd _ hd);exact w.order hx1 (Jd _ hy1) d1 c1 hx2 hy2.1 d2 c2 hx3.symm hy2.2.symm (s3 d hd c vv)
 ·rw [Jh,mem_serL,Ji,Ji];unfold onT onS;rw[decide_eq_true_eq,decide_eq_true_eq];constructor
  ·rintro (⟨d,hd,x1,x2,x3⟩|⟨x1,x2,x3⟩)
   ·obtain ⟨d1,d2⟩:=hm d (Jd _ hd);exact⟨w.pre x1 (w.order x1 hme d1 c1 x2 hon d2 c2 x3.symm ht.symm (s3 d hd c vv)),x2,(hC _).2 ⟨d,d1,d2,x3.symm⟩⟩
   ·exact⟨x1,x2,(hC _).2 ⟨c,c1,c2,x3.symm⟩⟩
  ·rintro ⟨x1,x2,x3⟩;obtain⟨d,d1,d2,d3⟩:=(hC _).1 x3;have hd:d∈F1++c::F2:=by rw[<-hF];exact Ji.2 ⟨d1,decide_eq_true d2⟩
   rcases Jh.1 hd with hd|hd
   ·exact .inl ⟨d,hd,Jd _ x1,x2,d3.symm⟩
   rcases Jj.1 hd with rfl|hd
   ·exact .inr ⟨x1,x2,d3.symm⟩
   ·have h1:=(Jt.1 s2).1 d hd;have h2:=w.order hme (Jd _ x1) c1 d1 hon x2 c2 d2 ht.symm d3 h1;have h3:=w.lth x1;omega
def LwB.fin{es:List E}(w:LwB es){C:Int->Bool}(hC:∀a,C a=true ↔ bB es a)(p s:Int):kJ es (ao es) p s=es.filter (onS p s C):=by
 have hm:∀d∈ao es,d∈es/\d.kind=3:=fun d hd=>by
  obtain⟨d1,d2⟩:=Ji.1 hd;exact⟨d1,by simpa using d2⟩
 refine BU (w.serP (w.fil _) hm p s) (w.fil _) fun x=>?_;rw[mem_serL,Ji];unfold onS;rw[decide_eq_true_eq];constructor
 ·rintro ⟨d,hd,x1,x2,x3⟩;exact⟨x1,x2,(hC _).2 ⟨d,(hm d hd).1,(hm d hd).2,x3.symm⟩⟩
 ·rintro ⟨x1,x2,x3⟩;obtain⟨d,d1,d2,d3⟩:=(hC _).1 x3;exact⟨d,Ji.2 ⟨d1,decide_eq_true d2⟩,x1,x2,d3.symm⟩
def cg(es F:List E)(t:Int)(i:Nat)(p s:Int):Ce:=ot (kK es F t i p s)
def NZ(es F:List E)(c:E)(t p s:Int):cg es F c.tx es.length p s=cg es (F++[c]) t 0 p s:=by
 unfold cg kK kJ;grind
def N0{h r F:List E}{e:E}(t p s:Int):cg (h++e::r) F t (h.length+1) p s=if onC p s e/\e.tx=t then e.c.a else cg (h++e::r) F t h.length p s:=by
 unfold cg kK
 have ht:(h++e::r).take (h.length+1)=h++[e]:=by
  have e1:h++e::r=(h++[e])++r:=vv;have e2:h.length+1=(h++[e]).length:=vv;rw[e1,e2];exact JY
 rw[ht,JY,Kj];split
 ·rename_i q;rw[Jv,if_pos (show onT p s t e=true from decide_eq_true q),JU,<-Jc,NY]
 ·rename_i q;rw[Jv,if_neg (show ¬onT p s t e=true by unfold onT;simpa using q),JU,Jk]
def LwB.found(w:LwB (h++e::r))(hF:ao (h++e::r)=F1++c::F2)(hk:e.kind=1\/e.kind=2)(ht:e.tx=c.tx):cg (h++e::r) F1 c.tx h.length e.c.pg e.c.sl=e.c.b:=by
 classical
 let C:Int->Bool:=fun a=>decide (bB (h++e::r) a)
 have hC:∀a,C a=true ↔ bB (h++e::r) a:=fun a=>decide_eq_true_iff;have hc:c∈ao (h++e::r):=by rw[hF];simp
 obtain⟨c1,c2⟩:=Ji.1 hc;unfold cg;rw[w.mid hF hk ht hC,<-BV];exact(w.bef hk (fun a ⟨x,hx,q⟩=>(hC a).2 ⟨x,Jd _ hx,q⟩) ((hC _).2 ⟨c,c1,by simpa using c2,ht.symm⟩)).symm
def LwB.last{es:List E}(w:LwB es){C:Int->Bool}(hC:∀a,C a=true ↔ bB es a)(t p s:Int):cg es (ao es) t 0 p s=dB es C p s:=by
 unfold cg kK;rw[JX,JU,Jk,w.fin hC,<-BV]
section
attribute [local go_sem] Ce.d Ch.d E.d
theorem fB:vt prog 111=some none:=vw
theorem fC:vt prog 112=some none:=vw
theorem fD:vt prog 113=some none:=vw
theorem um1:prog.underlying 111=some (.map 3 132):=vw
theorem um2:prog.underlying 112=some (.map 3 3):=vw
theorem um3:prog.underlying 113=some (.map 3 4):=vw
def bU:KeyT prog 3 kI:=N3 vw
theorem z1:kL prog 132=some (.pointer none):=vw
theorem z2:kL prog 3=some (.int .i64 0):=vw
theorem z3:kL prog 4=some (.bool false):=vw
attribute [local go_sem] fB fC fD
def ckC(f:Int)(bt bp bu:Nat):List DV:=[.int .i64 f,.pv (.lit (.map (some bt))),.pv (.lit (.map (some bp))),.pv (.lit (.map (some bu)))]
def dm:List (Int×Int)->Int->Option Int
 |[],_=>none
 |(a,x)::r,k=>if a=k then some x else dm r k
def fE:List (Int×Int)->Int->Int->List (Int×Int)
 |[],k,v=>[(k,v)]
 |(a,x)::r,k,v=>if a=k then (a,v)::r else (a,x)::fE r k v
def eW(L:List (Int×Int)):List (Int×DV):=L.map fun p=>(p.1,.int .i64 p.2)
def BW (L:List (Int × Int)) (k:Int):aq (eW L) k = (dm L k).map fun x=>DV.int .i64 x:=by
 induction L with
 |nil=>rfl
 |cons p r ih =>
   obtain⟨a,x⟩:=p;unfold eW at ih |-;simp only[JB,aq,dm,ih];split<;>rfl
def N4 (L:List (Int × Int)) (k v:Int):aR (eW L) k (.int .i64 v) = eW (fE L k v):=by
 induction L with
 |nil=>rfl
 |cons p r ih =>
   obtain⟨a,x⟩:=p;unfold eW at ih |-;simp only[JB,aR,fE];split
   ·rfl
   ·rw[ih];rfl
def N5(L:List (Int×Int))(k:Int):(aq (eW L) k).getD (.int .i64 0)=.int .i64 ((dm L k).getD 0):=by rw[BW];cases dm L k<;>rfl
def N6(L:List (Int×Int))(k:Int):(aq (eW L) k).isSome=(dm L k).isSome:=by rw[BW];cases dm L k<;>rfl
def pagedB(f:Int)(L:List (Int×Int))(e:E):Bool:=match dm L e.c.pg with
 |none=>decide (e.ppg<f)
 |some x=>decide (e.ppg=x)
def N7(hp:Qb)(g:MapsD)(kc bt bp bu:Nat)(f:Int)(e:E)(L:List (Int×Int))(hk:kc<hp.length)(hc:Qc hp kc=some (ckC f bt bp bu))(hg:(bp,ag kI (eW L))∈g) :
 VCallsG prog 44 [.ptr kc 0,.agg e.d] hp g (fun r h' g'=>r=.bool (pagedB f L e)/\(∃x,h'=hp++[x])/\g'=g.map fun p=>if p.1=bp then (bp,ag kI (eW (fE L e.c.pg e.lsn))) else p):=by
 refine fF (fn:=Tryz.f44) Tryz.func44 rfl vw (by simp[Tryz.f44]) (fun c=>?_);unfold ckC at hc;refine VWpG.first (Qa c) ?_
 (unfold Tryz.f44;refine rn trivial ?_)
 refine VWpG.seq ?_;refine VWpG.drawn (k:=7) (f:=6) (Qa c) vw vw vw vw rfl ?_;refine cU vw ?_;refine rn (Ja @hk @hc) ?_;refine ou (zv:=.int .i64 0) (L:=eW L) (k:=e.c.pg) rfl rfl um2 bU (eo z2) (gi rfl) rfl hg (bV rfl) ?_;rw[N5,N6];refine rn trivial ?_;refine VWpG.seq ?_;refine VWpG.drawn (k:=9) (f:=6) (Qa c) vw vw vw vw rfl ?_;refine cU vw ?_;refine rn (Ja @hk @hc) ?_;refine fG (L:=eW L) (k:=e.c.pg) rfl rfl um2 bU rfl hg (bV rfl) ?_;refine rn trivial ?_;rw[N4];refine VWpG.seq ?_;refine VWpG.first (Qa c) ?_
 refine rn trivial ?_;refine VWpG.cond rfl (fun hZ=>?_) (fun hZ=>?_)
 ·refine VWpG.plain (Qa c) ?_;refine rn trivial ?_;refine eO vw vw ?_;refine rn (Ja @hk @hc) ?_;refine⟨?_,_,rfl⟩;unfold pagedB;cases h:dm L e.c.pg with
  |none=>rfl
  |some x=>simp[h] at hZ
 ·refine VWpG.plain (Qa c) ?_;refine rn trivial ?_;refine VWpG.plain (Qa c) ?_;refine rn trivial ?_;refine⟨?_,_,rfl⟩;unfold pagedB;cases h:dm L e.c.pg with
  |none=>simp[h] at hZ
  |some x=>exact congrArg DV.bool (Kw _ _)
def rnC(last:Int)(ea ab en:Bool)(p:DV):List DV:=[.int .i64 last,.bool ea,.bool ab,.bool en,p]
def N8(hp:Qb)(g:MapsD)(kc bt bp bu:Nat)(f:Int)(e:E)(L:List (Int×DV))(hk:kc<hp.length)(hc:Qc hp kc=some (ckC f bt bp bu))(hg:(bt,ag kI L)∈g)(hn:aq L e.tx=none) :
 VCallsG prog 43 [.ptr kc 0,.agg e.d] hp g (fun r h' g'=>r=.bool (decide (e.ptx<f))/\(∃x,h'=hp++[x]++[⟨134,true,rnC e.lsn (decide (0<e.ptx)) false false (.pv (.slc []))⟩])/\g'=g.map fun p=>if p.1=bt then (bt,ag kI (aR L e.tx (.ptr (hp.length+1) 0))) else p):=by
 refine fF (fn:=Tryz.f43) Tryz.func43 rfl vw (by simp[Tryz.f43]) (fun c=>?_);unfold ckC at hc;refine VWpG.first (Qa c) ?_
 (unfold Tryz.f43;refine rn trivial ?_)
 refine VWpG.seq ?_;refine VWpG.drawn (k:=6) (f:=6) (Qa c) vw vw vw vw rfl ?_;refine cU vw ?_;refine rn (Ja @hk @hc) ?_;refine ou (zv:=.pointer none) (L:=L) (k:=e.tx) rfl rfl um1 bU (eo z1) (gi rfl) rfl hg (bV rfl) ?_;rw[hn];refine rn trivial ?_;refine VWpG.seq ?_;refine VWpG.first (Qa c) ?_
 refine rn trivial ?_;refine VWpG.cond rfl (fun hZ=>?_) (fun hZ=>?_)
 ·refine VWpG.seq ?_;refine VWpG.drawn (k:=13) (f:=6) (Qa c) vw vw vw vw rfl ?_;refine N9 [0,1,2,3,4,5,6,7,8,9,10,11] [⟨[],[],12,[0,1,2,3,4,5,6,7,8,9,10],[]⟩] vw ?_;refine rn (Ja @hk @hc) ?_;refine fG (L:=L) (k:=e.tx) rfl rfl um1 bU rfl hg (bV rfl) ?_;refine rn trivial ?_;refine VWpG.plain (Qa c) ?_;refine rn trivial ?_;refine eO vw vw ?_;refine rn (Ja @hk @hc) ?_;exact⟨_,rfl⟩
 ·simp at hZ
def Oa(hp:Qb)(g:MapsD)(kc bt bp bu:Nat)(f:Int)(e:E)(L:List (Int×DV))(hk:kc<hp.length)(hc:Qc hp kc=some (ckC f bt bp bu))(hg:(bt,ag kI L)∈g)(k:Nat)(la:Int)(ea ab en:Bool)(p:DV)(hkl:k<hp.length)(hb:Qc hp k=some (rnC la ea ab en p))(hn:aq L e.tx=some (.ptr k 0)) :
 VCallsG prog 43 [.ptr kc 0,.agg e.d] hp g (fun r h' g'=>r=.bool (decide (e.ptx=la)&&!en)/\(∃x,h'=Qm hp k (rnC e.lsn ea ab en p)++[x])/\g'=g):=by
 refine fF (fn:=Tryz.f43) Tryz.func43 rfl vw (by simp[Tryz.f43]) (fun c=>?_);unfold ckC at hc;unfold rnC at hb;refine VWpG.first (Qa c) ?_
 (unfold Tryz.f43;refine rn trivial ?_)
 refine VWpG.seq ?_;refine VWpG.drawn (k:=6) (f:=6) (Qa c) vw vw vw vw rfl ?_;refine cU vw ?_;refine rn (Ja @hk @hc) ?_;refine ou (zv:=.pointer none) (L:=L) (k:=e.tx) rfl rfl um1 bU (eo z1) (gi rfl) rfl hg (bV rfl) ?_;rw[hn];refine rn trivial ?_;refine VWpG.seq ?_;refine VWpG.first (Qa c) ?_
 refine rn trivial ?_;refine VWpG.cond rfl (fun hZ=>?_) (fun hZ=>?_)
 ·simp at hZ
 refine VWpG.plain (Qa c) ?_;refine rn trivial ?_;refine VWpG.plain (Qa c) ?_;have F:=(Ja @hk (Ja @hc (Ja @hkl @hb)))
 refine rn F ?_
 repeat' (first|with_reducible exact⟨⟩|(refine sG F ?_ ?_<;>intro hZ)|(refine Qf (id:=5) [0,1,2,3,4,5,6,7,8,9,10,11,12,13] [⟨[],[],14,[],[]⟩] vw vw ?_;refine rn F ?_))
 all_goals exact⟨_,rfl⟩
end
section
attribute [local go_sem] Ce.d Ch.d E.d bD cL cM cN cP cQ cR
def mf(l:List E)(hl:l.length<=1000000)(g:FuncId)(caps:List DV)(hc:DV.nums.go (fun _=>false) caps=true)(p:E->Bool)(hf:∀x,VCalls prog g (.agg x.d::caps) [] (Ret (.bool (p x)))) :
 VCalls prog 66 [.pv (.sl (fz encE l)),.fn (.func g) [] caps] [] (Ret (.int .i64 (bA l p))):=by
 refine dd Tryz.func66 ?_;have hf':=hf;unfold E.d at hf;refine rn F ?_;refine nk (fun i:Pass l (fun x=>p x=true)=>⟨19,0,[(8,.int .i64 i.i),(7,.int .i64 l.length),(0,.pv (.sl (fz encE l))),(1,.fn (.func g) [] caps)],[]⟩) (fun i=>l.length-i.i) (Pass.start l _) (by refine⟨rfl,rfl,vv,?_,?_,.inl rfl⟩<;>(repeat' apply Ja)<;>first|rfl|trivial) ?_;intro i;have hi:=i.hi;refine rn trivial ?_;refine fN (fun hc1=>?_) (fun hc1=>?_)<;>simp only[decide_eq_true_eq,decide_eq_false_iff_not,JR,Jf,Kc,Bool.and_eq_false_imp,Jy,Bool.not_eq_false',beq_iff_eq,beq_eq_false_iff_ne,bne_iff_ne,bne_eq_false_iff_eq,ne_eq] at hc1
 ·have hlt:i.i < l.length:=vz;have hg:=jX l i.i hlt;have hm:=hf (l.getD i.i E0);have hgd:=Qd l i.i hlt E0;refine rn @hg ?_;refine bZ hm (by simpa [DV.nums.go,DV.nums] using hc) ?_;refine rn trivial ?_;refine fN (fun hx=>?_) (fun hx=>?_)
  ·(refine rn trivial ?_;try with_reducible exact ⟨⟩)
   rw[tq l p i.i hlt (by rw[<-hgd];exact hx) i.no]
  ·(refine rn trivial ?_;try with_reducible exact ⟨⟩)
   exact⟨i.next hlt (by rw[<-hgd,hx];simp),by show l.length-(i.i+1)<l.length-i.i;omega,(by refine⟨rfl,rfl,vv,?_,?_,.inl rfl⟩<;>(repeat' apply Ja)<;>first|rfl|trivial)⟩
 ·(refine rn trivial ?_;try with_reducible exact ⟨⟩)
  have:=i.all vz;rw[bA,if_neg (by simpa using this)]
def ow(l:List E)(hl:l.length<=1000000)(g:FuncId)(caps:List DV)(hc:DV.nums.go (fun _=>false) caps=true)(p:E->Bool)(hf:∀x,VCalls prog g (.agg x.d::caps) [] (Ret (.bool (p x)))) :
 VCalls prog 71 [.pv (.sl (fz encE l)),.fn (.func g) [] caps] [] (Ret (.bool (l.any p))):=by
 refine dd Tryz.func71 ?_;have hi:=mf l hl g caps hc p hf;refine rn F ?_;refine bZ hi (by simpa [DV.nums.go,DV.nums] using hc) ?_;by_cases ha:l.any p=true
 ·rw [bA,if_pos ha];(refine rn @ha ?_;try with_reducible exact⟨⟩)
 ·have ha':l.any p = false:=by simpa using ha
  rw[bA,if_neg ha];(refine rn @ha' ?_;try with_reducible exact⟨⟩)
@[local go_sem] def Ch.inv (x:Ch):Ch:=⟨x.pg,x.sl,x.a,x.b⟩
def BX(x:Ch):VCalls prog 68 [.agg x.d] [] (Ret (.agg x.inv.d)):=by
 refine dd Tryz.func68 ?_;(refine rn F ?_;try with_reducible exact⟨⟩)
@[local go_sem] def E.q (x:E):List PV:=[.lit (.int .i64 x.lsn),.lit (.int .i64 x.kind),.lit (.int .i64 x.tx),.lit (.int .i64 x.ptx),.lit (.int .i64 x.ppg),.lit (.int .i64 x.ref),.lit (.int .i64 x.c.pg),.lit (.int .i64 x.c.sl),.lit (.bool x.c.b.set),.str x.c.b.data,.lit (.bool x.c.a.set),.str x.c.a.data,.str x.blob]
def ox(x:E)(e:E):VCalls prog 67 [.agg x.d,.ip e.q] [] (Ret (.bool (decide (x.lsn >= e.ref)))):=by
 refine dd Tryz.func67 ?_;(refine rn F ?_;try with_reducible exact⟨⟩)
def oy(x:E)(e:E):VCalls prog 72 [.agg x.d,.ip e.q] [] (Ret (.bool (decide (x.c.pg=e.c.pg)&&decide (x.c.sl=e.c.sl)))):=by
 refine dd Tryz.func72 ?_;refine rn F ?_
 repeat' (first|with_reducible exact⟨⟩|(refine sG F ?_ ?_<;>intro hZ))
 all_goals exact congrArg DV.bool (Kw _ _)
def zE:List DV:=[.pv (.lit (.int .i64 0)),.pv (.lit (.int .i64 0)),.pv (.lit (.int .i64 0)),.pv (.lit (.int .i64 0)),.pv (.lit (.int .i64 0)),.pv (.lit (.int .i64 0)),.pv (.lit (.int .i64 0)),.pv (.lit (.int .i64 0)),.pv (.lit (.bool false)),.pv (.str []),.pv (.lit (.bool false)),.pv (.str []),.pv (.str [])]
def Ob(n:Int)(h0:0<=n)(h1:n<=100000):VCalls prog 93 [.pv (.slc []),.int .i64 n] [] (fO noK [] 13 0 58 []):=by
 refine VCalls.newSl_cut (t:=mk zE n.toNat) (VCalls.newSl ?_);refine Oc (fn:=Tryz.f93) Tryz.func93 rfl vw (by simp[Tryz.f93]) (fun c=>?_);have hn:¬n<0:=vz;have hs:n-(0-((0:Nat):Int))=n:=vz;refine VWpG.first (Qa c) ?_
 (unfold Tryz.f93;refine rn trivial ?_)
 refine VWpG.seq ?_;refine VWpG.first (Qa c) ?_
 refine rn @hn ?_;refine VWpG.cond rfl (fun hZ=>?_) (fun hZ=>?_)
 ·simp at hZ
 refine VWpG.plain (Qa c) ?_;refine rn trivial ?_;refine VWpG.seq ?_;refine VWpG.seq ?_;refine VWpG.cut1 (Qa c) 2 [] ?_;refine rn trivial ?_;refine QR rfl (fun c=>by simp) (rp (Qa c) rfl (BZ (x:=.tmp 9) rfl Tryz.velem24 rfl) ?_);refine rn trivial ?_;rw[hs];refine VWpG.first (Qa c) ?_
 refine rn trivial ?_;refine VWpG.cond rfl (fun hZ=>?_) (fun hZ=>?_)
 ·have hn0:0 < n:=by simpa using hZ
  refine VWpG.cut1 (Qa c) 2 [0,1] ?_;refine rn trivial ?_;refine QR rfl (fun c=>by simp) (rp (Qa c) rfl (BZ (x:=.tmp 18) rfl Tryz.velem24 rfl) (mg ?_));refine rn trivial ?_;refine QR rfl (fun c=>by simp) (rp (Qa c) rfl (Od (x:=.tmp 17) (y:=.tmp 19) rfl Tryz.velem24 rfl rfl) (mg ?_));refine rn trivial ?_;refine QR rfl (fun c=>by simp) (rp (Qa c) rfl (Oe (x:=.tmp 20) (y:=.tmp 21) (z:=zE) (l:=n) rfl Tryz.velem24 vw Tryz.bytes58 Tryz.vzero58 hn0 vz vj rfl rfl vj vz rfl rfl) ?_);refine rn trivial ?_;refine VWpG.plain (Qa c) ?_;refine rn trivial ?_;exact⟨vv,.inr ⟨_,.inl rfl,vv,rfl,B4 _ _ rfl _⟩⟩
 ·have hn0:n = 0:=by simp at hZ;omega
  subst hn0;refine VWpG.plain (Qa c) ?_;refine rn trivial ?_;refine VWpG.plain (Qa c) ?_;refine rn trivial ?_;exact⟨vv,.inl ⟨rfl,rfl,rfl⟩⟩
@[local go_sem] def l2 (a b:List E):List (List PV):=[[.sl (fz encE a)],[.sl (fz encE b)]]
structure C2(a b:List E) where
 i:Nat
 hi:i<=2
def C2.n{a b:List E}(s:C2 a b):Nat:=match s.i with|0=>0|1=>a.length|_=>a.length+b.length
def C2.l{a b:List E}(s:C2 a b):List E:=match s.i with|0=>[]|1=>a|_=>a++b
theorem C2.n0(a b:List E)(h:0<=2):(⟨0,h⟩:C2 a b).n=0:=rfl
theorem C2.n1(a b:List E)(h:1<=2):(⟨1,h⟩:C2 a b).n=a.length:=rfl
theorem C2.n2(a b:List E)(h:2<=2):(⟨2,h⟩:C2 a b).n=a.length+b.length:=rfl
theorem C2.l0(a b:List E)(h:0<=2):(⟨0,h⟩:C2 a b).l=[]:=rfl
theorem C2.l1(a b:List E)(h:1<=2):(⟨1,h⟩:C2 a b).l=a:=rfl
theorem C2.l2(a b:List E)(h:2<=2):(⟨2,h⟩:C2 a b).l=a++b:=rfl
def B5(a b:List E)(h:a.length+b.length<=100000):VCalls prog 70 [.pv (.sl (l2 a b))] [] (fO noK [] 13 (a.length+b.length) 58 (cells encE (a++b))):=by
 refine VCalls.newSl ?_;refine lA (fn:=Tryz.f70) Tryz.func70 rfl vw (by simp[Tryz.f70]) ?_;(unfold Tryz.f70;refine rn trivial ?_)
 refine nk (fun s:C2 a b=>⟨36,0,[(11,.int .i64 s.i),(10,.int .i64 2),(9,.pv (.sl (l2 a b))),(3,.int .i64 s.n),(0,.pv (.sl (l2 a b)))],[]⟩) (fun s=>2-s.i) ⟨0,vz⟩ (by refine⟨rfl,rfl,vv,?_,?_,.inl rfl⟩<;>(repeat' apply Ja)<;>first|rfl|trivial) ?_;rintro⟨i,hi⟩;have hh:i=0\/i=1\/i=2:=vz;have q0:((0:Nat):Int)+a.length=a.length:=vz;have q1:¬((a.length:Int)<0):=vz;have q2:¬(((a.length+b.length:Nat):Int)<0):=vz;have q3:(a.length:Int)+b.length=((a.length+b.length:Nat):Int):=vz;rcases hh with rfl|rfl|rfl
 ·(refine rn (Ja (C2.n0 a b) (Ja @q0 @q1)) ?_;try with_reducible exact ⟨⟩)
  exact⟨⟨1,vz⟩,vu,(by refine⟨rfl,rfl,vv,?_,?_,.inl rfl⟩<;>(repeat' apply Ja)<;>first|rfl|trivial)⟩
 ·(refine rn (Ja (C2.n1 a b) (Ja @q2 @q3)) ?_;try with_reducible exact ⟨⟩)
  exact⟨⟨2,vz⟩,vu,(by refine⟨rfl,rfl,vv,?_,?_,.inl rfl⟩<;>(repeat' apply Ja)<;>first|rfl|trivial)⟩
 ·(refine rn ((C2.n2 a b)) ?_;try with_reducible exact ⟨⟩)
  refine Of (Ob _ vz vz) rfl rfl ?_;refine rn trivial ?_;refine Qj (fun s:C2 a b=>⟨36,0,[(27,.int .i64 s.i),(26,.int .i64 2),(25,.pv (.sl (l2 a b))),(6,.own 0 13 0 s.n)],[⟨58,true,cells encE s.l⟩]⟩) (fun s=>2-s.i) ⟨0,vz⟩ (gc [0]) ?_;rintro⟨i,hi⟩;have hh:i=0\/i=1\/i=2:=vz;have ha:=pQ encE a;have hb:=pQ encE b;have m1:a.length*128<=140737488355328:=vz;have m2:(a.length+b.length)*128<=140737488355328:=vz;rcases hh with rfl|rfl|rfl
  ·(refine rn (Ja (C2.l0 a b) (Ja (C2.n0 a b) (Ja @ha @m1))) ?_;try with_reducible exact ⟨⟩)
   exact⟨⟨1,vz⟩,vu,(gc [1])⟩
  ·(refine rn (Ja (C2.l1 a b) (Ja (C2.n1 a b) (Ja @hb @m2))) ?_;try with_reducible exact ⟨⟩)
   exact⟨⟨2,vz⟩,vu,(gc [1])⟩
  ·(refine rn (Ja (C2.l2 a b) ((C2.n2 a b))) ?_;try with_reducible exact ⟨⟩)
   exact⟨vv,.inr ⟨0,.inl rfl,vv,rfl,Qw _ _ _⟩⟩
end
section
attribute [local go_sem] Ce.d Ch.d E.d bD cL cM cN cP cQ cR fB fC fD E.q Ch.inv Jq
def aL(U:List Int):List (Int×DV):=U.map fun x=>(x,.bool true)
def ep(U:List Int)(x:Int):List Int:=if x∈U then U else U++[x]
def oz (U:List Int) (x:Int):(aq (aL U) x).getD (.bool false) = .bool (decide (x ∈ U)):=by
 induction U with
 |nil=>rfl
 |cons a r ih =>
   unfold aL at ih |-;simp only[JB,aq];by_cases h:a=x
   ·subst h;simp
   ·rw[if_neg h,ih];congr 1;simp[Ne.symm h]
def oA (U:List Int) (x:Int):aR (aL U) x (.bool true) = aL (ep U x):=by
 induction U with
 |nil=>rfl
 |cons a r ih =>
   unfold aL ep at ih |-;simp only[JB,aR];by_cases h:a=x
   ·subst h;simp
   ·rw [if_neg h,ih];by_cases hr:x∈r
    ·simp[hr]
    ·simp[hr,Ne.symm h]
def aa(e x:E):Bool:=decide (x.lsn >= e.ref)
def cV(e x:E):Bool:=decide (x.c.pg=e.c.pg)&&decide (x.c.sl=e.c.sl)
def Og(hp:Qb)(g:MapsD)(kc bt bp bu:Nat)(f:Int)(e:E)(U:List Int)(hk:kc<hp.length)(hc:Qc hp kc=some (ckC f bt bp bu))(hg:(bu,ag kI (aL U))∈g)(kt:Nat)(la:Int)(ea ab en:Bool)(hkt:kt<hp.length)(ht:Qc hp kt=some (rnC la ea ab en (.pv (.slc [])))) :
 VCallsG prog 45 [.ptr kc 0,.ptr kt 0,.agg e.d] hp g (fun r h' g'=>∃b,r=.bool b/\b=(decide (e.ref<f)&&!decide (e.ref∈U))/\(b=true->(∃x,h'=hp++[x])/\g'=g.map fun p=>if p.1=bu then (bu,ag kI (aL (ep U e.ref))) else p)):=by
 refine fF (fn:=Tryz.f45) Tryz.func45 rfl vw (by simp[Tryz.f45]) (fun c=>?_);unfold ckC at hc;unfold rnC at ht;refine VWpG.first (Qa c) ?_
 (unfold Tryz.f45;refine rn trivial ?_)
 refine VWpG.seq ?_;refine VWpG.drawn (k:=6) (f:=6) (Qa c) vw vw vw vw rfl ?_;refine cU vw ?_;refine rn (Ja @hk @hc) ?_;refine iK (zv:=.bool false) (L:=aL U) (k:=e.ref) rfl rfl um3 bU (eo z3) (gi rfl) rfl hg (bV rfl) ?_;rw[show(DV.pv (.lit (.bool false)))=.bool false from rfl,oz];refine rn trivial ?_;refine VWpG.seq ?_;refine VWpG.drawn (k:=6) (f:=6) (Qa c) vw vw vw vw rfl ?_;refine cU vw ?_;refine rn (Ja @hk @hc) ?_;refine fG (L:=aL U) (k:=e.ref) rfl rfl um3 bU rfl hg (bV rfl) ?_;refine rn trivial ?_;rw[show(DV.pv (.lit (.bool true)))=.bool true from rfl,oA];have hi:=mf [] vj 67 [.ip e.q] rfl (aa e) (fun x=>ox x e);have hco:=ow [] vj 72 [.ip e.q] rfl (cV e) (fun x=>oy x e);have hi':VCalls prog 66 [.pv (.slc []),.fn (.func 67) [] [.ip e.q]] [] (Ret (.int .i64 (-1))):=VCalls.wkA hi;have hco':VCalls prog 71 [.pv (.sl []),.fn (.func 72) [] [.ip e.q]] [] (Ret (.bool false)):=hco;refine VWpG.plain (Qa c) ?_;have F:=(Ja @hk (Ja @hc (Ja @hkt @ht)))
 refine rn F ?_
 repeat' (first|with_reducible exact⟨⟩|(refine sG F ?_ ?_<;>intro hZ)|(refine sB F ?_ ?_<;>intro hZ)|refine vl F (hi') ?_|refine vl F (hco') ?_|(refine Qf (id:=7) [0,1,2,3,4,5,6] [] vw vw ?_;refine rn F ?_)|(refine Qf (id:=8) [0,1,2,3,4,5,6,7,8,9,10,11,12,13,14,15,16,18,19] [⟨[],[],17,[0,1,2,3,4,5,6,7,8,9,10,11,13,14,15,18,19],[20,21]⟩] vw vw ?_;refine rn F ?_))
 all_goals exact⟨_,rfl,rfl,fun _=>⟨_,rfl⟩⟩
def rq(ho:off=i*13)(h:i+len<=l.length):bw n hp off 13 len (some (cells encE l))=some (.sl (fz encE ((l.drop i).take len))):=by
 subst ho;have h0:=Oh encE (n:=n) (hp:=hp) (len:=len) (l:=(l.drop i).take len) (m:=(l.drop i).drop len) vg;rw[Jr] at h0;have e:(encE.sz)=13:=rfl;rw[e] at h0;have hd:(cells encE l).drop (i*13)=cells encE (l.drop i):=uX encE l i;simp only[bw] at h0 |-;rw[hd];rw[KA,if_pos ⟨by rw[bD,JZ];omega,vj⟩] at h0;rw[if_pos ⟨by rw[bD];omega,vj⟩];exact h0
def ru(l:List E):∀d∈cells encE l,d.flat=true:=Oi encE l fun a _ p hp=>by
 simp only[encE,Jj,JH,or_false] at hp;rcases hp with rfl|rfl|rfl|rfl|rfl|rfl|rfl|rfl|rfl|rfl|rfl|rfl|rfl<;>rfl
def atE(l:List E)(i:Nat)(h:i<l.length):((cells encE l).drop (i*13)).take 13=(l.getD i E0).d:=by rw[Qd l i h];exact uY encE l i h
def B6(l:List E)(i:Nat)(h:i<l.length):(cells encE l)[i*13]?=some (.pv (.lit (.int .i64 (l.getD i E0).lsn))):=by
 have h2:=congrArg (fun x=>x[0]?) (atE l i h);simp only[J2,KC,Nat.add_zero] at h2;rw[if_pos vj] at h2;exact h2
def B7(l:List E)(i:Nat)(h:i<l.length):((cells encE l).drop (i*13+6)).take 6=(l.getD i E0).c.d:=by
 have h2:=congrArg (fun x=>(x.drop 6).take 6) (atE l i h);simp only[List.drop_take,Kl,J8] at h2;exact h2
def ry(hb:Qc hp k=some (cells encE l))(ho:off=i*13)(h:i+len<=l.length):bH 0 hp (f+1) (.own k 13 off len)=some (.sl (fz encE ((l.drop i).take len))):=by
 subst ho;have hd:(cells encE l).drop (i*13)=cells encE (l.drop i):=uX encE l i;have h1:=rz encE 0 hp f ((l.drop i).take len)
 have hr:rows 13 len (cells encE (l.drop i))=rows 13 len (cells encE ((l.drop i).take len)):=by
  conv=>lhs;rw[<-Jr len (l.drop i),QC]
  exact B8 _ _ _ _ (by rw[bD,Ju,JZ,J4 vz];exact Jp _)
 have hl:((l.drop i).take len).length=len:=vg;rw[hl] at h1;simp only[bH,hb,Jq,if_false];rw[if_pos ⟨by rw[bD];omega,vj⟩,hd,hr];exact congrArg (Option.map PV.sl) h1
def B9(hb:Qc hp k=some [d1,d2])(h1:bH 0 hp 3 d1=some p1)(h2:bH 0 hp 3 d2=some p2):dp hp (.own k 1 0 2)=some (.pv (.sl [[p1],[p2]])):=by
 rw[Ca,aD,if_neg (Jq _),Cb,if_neg (Jq _),hb];simp[bw,rows,h1,h2,Qi]
def eX(P:List E)(j:Nat):List E:=P.take j++P.drop (j+1)
def eqC(x y:Ch):Bool:=x.pg==y.pg&&(x.sl==y.sl&&(x.b.set==y.b.set&&(x.b.data==y.b.data&&(x.a.set==y.a.set&&x.a.data==y.a.data))))
end
section
attribute [local go_sem] Ce.d Ch.d E.d bD cL cM cN cP cQ cR fB fC fD E.q Ch.inv Jq QZ bK
def Oj(hp:Qb)(g:MapsD)(kc bt bp bu:Nat)(f:Int)(e:E)(U:List Int)(hk:kc<hp.length)(hc:Qc hp kc=some (ckC f bt bp bu))(hg:(bu,ag kI (aL U))∈g)(kt kp:Nat)(la:Int)(ea ab en:Bool)(P:List E)(hPl:P.length<=10000)
 (hkt:kt<hp.length) (ht:Qc hp kt=some (rnC la ea ab en (.own kp 13 0 P.length))) (hkp:kp<hp.length) (hpb:hp[kp]?=some ⟨58,true,cells encE P⟩) (hne:kt≠kp)
 (ha:P.any (aa e)=true) (hfe:¬f<=e.ref) :
 VCallsG prog 45 [.ptr kc 0,.ptr kt 0,.agg e.d] hp g (fun r h' g'=>∃b,r=.bool b/\b=(!decide (e.ref∈U)&&!(P.drop (P.findIdx (aa e))).any (cV e))/\(b=true->(∃x,h'=hp++[x])/\g'=g.map fun p=>if p.1=bu then (bu,ag kI (aL (ep U e.ref))) else p)):=by
 refine fF (fn:=Tryz.f45) Tryz.func45 rfl vw (by simp[Tryz.f45]) (fun c=>?_);have hpc:Qc hp kp=some (cells encE P):=iL hpb;unfold ckC at hc;unfold rnC at ht;refine VWpG.first (Qa c) ?_
 (unfold Tryz.f45;refine rn trivial ?_)
 refine VWpG.seq ?_;refine VWpG.drawn (k:=6) (f:=6) (Qa c) vw vw vw vw rfl ?_;refine cU vw ?_;refine rn (Ja @hk @hc) ?_;refine iK (zv:=.bool false) (L:=aL U) (k:=e.ref) rfl rfl um3 bU (eo z3) (gi rfl) rfl hg (bV rfl) ?_;rw[show(DV.pv (.lit (.bool false)))=.bool false from rfl,oz];refine rn trivial ?_;refine VWpG.seq ?_;refine VWpG.drawn (k:=6) (f:=6) (Qa c) vw vw vw vw rfl ?_;refine cU vw ?_;refine rn (Ja @hk @hc) ?_;refine fG (L:=aL U) (k:=e.ref) rfl rfl um3 bU rfl hg (bV rfl) ?_;refine rn trivial ?_;rw[show(DV.pv (.lit (.bool true)))=.bool true from rfl,oA];have hj:P.findIdx (aa e)<P.length:=Jo (by simpa using ha);have hi:=mf P vz 67 [.ip e.q] rfl (aa e) (fun x=>ox x e);rw[bA,if_pos ha] at hi;generalize P.findIdx (aa e)=j at *;have hco:=ow (P.drop j) vg 72 [.ip e.q] rfl (cV e) (fun x=>oy x e)
 have hfr:∀hp',bw 0 hp' (j*13) 13 (P.length-j) (some (cells encE P))=some (.sl (fz encE (P.drop j))):=fun hp'=>by
  rw[rq (i:=j) (len:=P.length-j) rfl vz,JC vv]
 have hj0:¬((j:Int)<0):=vz;refine VWpG.plain (Qa c) ?_;have F:=(Ja @hk (Ja @hc (Ja @hkt (Ja @ht (Ja @hkp (Ja @hpc (Ja @hpb (Ja @hj (Ja @hj0 (Ja @hfr @hfe))))))))))
 refine rn F ?_
 repeat' (first|with_reducible exact⟨⟩|(refine sG F ?_ ?_<;>intro hZ)|refine vl F (hi) ?_|refine vl F (hco) ?_|(refine Qf (id:=7) [0,1,2,3,4,5,6] [] vw vw ?_;refine rn F ?_))
 all_goals exact⟨_,rfl,rfl,fun _=>⟨_,rfl⟩⟩
def Ok(hp:Qb)(g:MapsD)(kc bt bp bu:Nat)(f:Int)(e:E)(U:List Int)(hk:kc<hp.length)(hc:Qc hp kc=some (ckC f bt bp bu))(hg:(bu,ag kI (aL U))∈g)(kt kp:Nat)(la:Int)(ea ab en:Bool)(P:List E)(hPl:P.length<=10000)
 (hkt:kt<hp.length) (ht:Qc hp kt=some (rnC la ea ab en (.own kp 13 0 P.length))) (hkp:kp<hp.length) (hpb:hp[kp]?=some ⟨58,true,cells encE P⟩) (hne:kt≠kp)
 (ha:P.any (aa e)=false) :
 VCallsG prog 45 [.ptr kc 0,.ptr kt 0,.agg e.d] hp g (fun r h' g'=>∃b,r=.bool b/\b=(decide (e.ref<f)&&!decide (e.ref∈U))/\(b=true->(∃x,h'=hp++[x])/\g'=g.map fun p=>if p.1=bu then (bu,ag kI (aL (ep U e.ref))) else p)):=by
 refine fF (fn:=Tryz.f45) Tryz.func45 rfl vw (by simp[Tryz.f45]) (fun c=>?_);have hpc:Qc hp kp=some (cells encE P):=iL hpb;unfold ckC at hc;unfold rnC at ht;refine VWpG.first (Qa c) ?_
 (unfold Tryz.f45;refine rn trivial ?_)
 refine VWpG.seq ?_;refine VWpG.drawn (k:=6) (f:=6) (Qa c) vw vw vw vw rfl ?_;refine cU vw ?_;refine rn (Ja @hk @hc) ?_;refine iK (zv:=.bool false) (L:=aL U) (k:=e.ref) rfl rfl um3 bU (eo z3) (gi rfl) rfl hg (bV rfl) ?_;rw[show(DV.pv (.lit (.bool false)))=.bool false from rfl,oz];refine rn trivial ?_;refine VWpG.seq ?_;refine VWpG.drawn (k:=6) (f:=6) (Qa c) vw vw vw vw rfl ?_;refine cU vw ?_;refine rn (Ja @hk @hc) ?_;refine fG (L:=aL U) (k:=e.ref) rfl rfl um3 bU rfl hg (bV rfl) ?_;refine rn trivial ?_;rw[show(DV.pv (.lit (.bool true)))=.bool true from rfl,oA];have hi:=mf P vz 67 [.ip e.q] rfl (aa e) (fun x=>ox x e);rw[bA,if_neg (by rw[ha];simp)] at hi;have hco:VCalls prog 71 [.pv (.sl []),.fn (.func 72) [] [.ip e.q]] [] (Ret (.bool false)):=ow [] vj 72 [.ip e.q] rfl (cV e) (fun x=>oy x e);refine VWpG.plain (Qa c) ?_;have F:=(Ja @hk (Ja @hc (Ja @hkt (Ja @ht (Ja @hkp (Ja @hpc @hpb))))))
 refine rn F ?_
 repeat' (first|with_reducible exact⟨⟩|(refine sG F ?_ ?_<;>intro hZ)|(refine sB F ?_ ?_<;>intro hZ)|refine vl F (hi) ?_|refine vl F (hco) ?_|(refine Qf (id:=7) [0,1,2,3,4,5,6] [] vw vw ?_;refine rn F ?_)|(refine Qf (id:=8) [0,1,2,3,4,5,6,7,8,9,10,11,12,13,14,15,16,18,19] [⟨[],[],17,[0,1,2,3,4,5,6,7,8,9,10,11,13,14,15,18,19],[20,21]⟩] vw vw ?_;refine rn F ?_))
 all_goals exact⟨_,rfl,rfl,fun _=>⟨_,rfl⟩⟩
def Ol(hp:Qb)(g:MapsD)(kc bt bp bu:Nat)(f:Int)(e:E)(U:List Int)(hk:kc<hp.length)(hc:Qc hp kc=some (ckC f bt bp bu))(hg:(bu,ag kI (aL U))∈g)(kt kp:Nat)(la:Int)(ea ab en:Bool)(P:List E)(hPl:P.length<=10000)
 (hkt:kt<hp.length) (ht:Qc hp kt=some (rnC la ea ab en (.own kp 13 0 P.length))) (hkp:kp<hp.length) (hpb:hp[kp]?=some ⟨58,true,cells encE P⟩) (hne:kt≠kp)
 (ha:P.any (aa e)=true) (hfe:f<=e.ref) (hj1:P.findIdx (aa e)+1<P.length) :
 VCallsG prog 45 [.ptr kc 0,.ptr kt 0,.agg e.d] hp g (fun r h' g'=>∃b,r=.bool b/\b=(decide ((P.getD (P.findIdx (aa e)) E0).lsn=e.ref)&&(eqC (P.getD (P.findIdx (aa e)) E0).c.inv e.c&&(!decide (e.ref∈U)&&!(P.drop (P.findIdx (aa e)+1)).any (cV e))))/\(b=true->(∃x y z,h'=Qm hp kt (rnC la ea ab en (.own (hp.length+3) 13 0 (P.length-1)))++[x,y,z,⟨58,true,cells encE (eX P (P.findIdx (aa e)))⟩])/\g'=g.map fun p=>if p.1=bu then (bu,ag kI (aL (ep U e.ref))) else p)):=by
 refine fF (fn:=Tryz.f45) Tryz.func45 rfl vw (by simp[Tryz.f45]) (fun c=>?_);have hpc:Qc hp kp=some (cells encE P):=iL hpb;unfold ckC at hc;unfold rnC at ht;refine VWpG.first (Qa c) ?_
 (unfold Tryz.f45;refine rn trivial ?_)
 refine VWpG.seq ?_;refine VWpG.drawn (k:=6) (f:=6) (Qa c) vw vw vw vw rfl ?_;refine cU vw ?_;refine rn (Ja @hk @hc) ?_;refine iK (zv:=.bool false) (L:=aL U) (k:=e.ref) rfl rfl um3 bU (eo z3) (gi rfl) rfl hg (bV rfl) ?_;rw[show(DV.pv (.lit (.bool false)))=.bool false from rfl,oz];refine rn trivial ?_;refine VWpG.seq ?_;refine VWpG.drawn (k:=6) (f:=6) (Qa c) vw vw vw vw rfl ?_;refine cU vw ?_;refine rn (Ja @hk @hc) ?_;refine fG (L:=aL U) (k:=e.ref) rfl rfl um3 bU rfl hg (bV rfl) ?_;refine rn trivial ?_;rw[show(DV.pv (.lit (.bool true)))=.bool true from rfl,oA];have hj:P.findIdx (aa e)<P.length:=Jo (by simpa using ha);have hi:=mf P vz 67 [.ip e.q] rfl (aa e) (fun x=>ox x e);rw[bA,if_pos ha] at hi;generalize P.findIdx (aa e)=j at *;have hco:=ow (P.drop (j+1)) vg 72 [.ip e.q] rfl (cV e) (fun x=>oy x e);have hcl:=xW (P.drop (j+1)) vg;have hcc:=B5 (P.take j) (P.drop (j+1)) vg;have hl1:(P.drop (j+1)).length=P.length-j-1:=vg;have hl2:(P.take j).length+(P.drop (j+1)).length=P.length-1:=vg;rw[hl1] at hcl;rw[hl2] at hcc
 have hfr:∀hp',bw 0 hp' (j*13+13) 13 (P.length-j-1) (some (cells encE P))=some (.sl (fz encE (P.drop (j+1)))):=fun hp'=>by
  rw[rq (i:=j+1) (len:=P.length-j-1) vz vz,JC vg]
 have hft:∀hp',bw 0 hp' 0 13 j (some (cells encE P))=some (.sl (fz encE (P.take j))):=fun hp'=>by
  rw[rq (i:=0) (len:=j) rfl vz];simp
 have hj0:¬((j:Int)<0):=vz;have hA0:=B6 P j hj;have hA6:=B7 P j hj;have hlen:j*13+6+6<=P.length*13:=vz;have hlen0:¬((P.length-j:Nat):Int)=0:=vz;generalize P.getD j E0=x at *;unfold Ch.d at hA6;refine VWpG.plain (Qa c) ?_;have F:=(Ja @hk (Ja @hc (Ja @hkt (Ja @ht (Ja @hkp (Ja @hpc (Ja @hpb (Ja @hj (Ja @hj0 (Ja @hfr (Ja @hft (Ja @hfe (Ja @hA0 (Ja @hA6 (Ja @hj1 (Ja @hlen (Ja @hl1 (Ja @hl2 (Ja @hlen0 @hne)))))))))))))))))))
 refine rn F ?_
 repeat' (first|with_reducible exact⟨⟩|(refine sG F ?_ ?_<;>intro hZ)|(refine sB F ?_ ?_<;>intro hZ)|refine vl F (hi) ?_|(refine rA (hcl) ?_ (ru _) ?_;(focus (refine rd F));refine rn F ?_)|refine vp F (BX x.c) ?_|(refine Qf (id:=7) [0,1,2,3,4,5,6] [] vw vw ?_;refine rn F ?_)|(refine Qf (id:=8) [0,1,2,3,4,5,6,7,8,9,10,11,12,13,14,15,16,18,19] [⟨[],[],17,[0,1,2,3,4,5,6,7,8,9,10,11,13,14,15,18,19],[20,21]⟩] vw vw ?_;refine rn F ?_))
 ·refine ⟨_,rfl,?_,fun h=>by cases h⟩;rw[show eqC { pg:=x.c.pg,sl:=x.c.sl,b:=x.c.a,a:=x.c.b } e.c=false from ?_]
  ·rfl
  ·unfold eqC;rw[J6];intro h;simp at h;exact hZ h.1 h.2.1 h.2.2.1 h.2.2.2.1 h.2.2.2.2.1 h.2.2.2.2.2
 ·rw [show eqC { pg:=x.c.pg,sl:=x.c.sl,b:=x.c.a,a:=x.c.b } e.c = true from by unfold eqC;simp;exact hZ];have hjt:P.length-1=(P.take j).length+(P.drop (j+1)).length:=hl2.symm;refine rA hcc (congrArg (fun o=>Qi [o]) (B9 (d1:=.own kp 13 0 j) (d2:=.own (hp.length+1) 13 0 (P.length-j-1)) (p1:=.sl (fz encE (P.take j))) (p2:=.sl (fz encE (P.drop (j+1)))) ?_ ?_ ?_)) (ru _) ?_
  ·(refine rn (Ja @hk @hkp) ?_;try with_reducible exact⟨⟩)
  ·refine (ry (i:=0) (l:=P) ?_ rfl vz).trans vv;(refine rn (Ja @hkp @hpc) ?_;try with_reducible exact⟨⟩)
  ·refine (ry (i:=0) (l:=P.drop (j + 1)) ?_ rfl vg).trans (by rw [<-hl1,KA,JG]);(refine rn (Ja @hkp @hpc) ?_;try with_reducible exact⟨⟩)
  refine rn (Ja @hk (Ja @hc (Ja @hkt (Ja @ht (Ja @hkp (Ja @hpc (Ja @hpb @hne))))))) ?_;obtain⟨hp2,hS⟩:∃h,h=Qm hp kt (rnC la ea ab en (.own (hp.length+1+1+1) 13 0 (P.length-1))):=⟨_,rfl⟩
  have hS0:=hS;unfold rnC at hS;rw[<-hS];have hlp:hp2.length=hp.length:=by rw[hS,Qv]
  have F:=(Ja @hk (Ja @hlp @hl1))
  refine rn F ?_
  repeat' (first|with_reducible exact⟨⟩|(refine sG F ?_ ?_<;>intro hZ)|refine vl F (hco) ?_)
  ·exact⟨_,rfl,rfl,fun _=>⟨_,_,_,by rw[hS0];simp only[Jc,JP,JI];rfl⟩⟩
  ·exact⟨_,rfl,rfl,fun h=>by cases h⟩
 ·exact⟨_,rfl,rfl,fun h=>by cases h⟩
def Om(hp:Qb)(g:MapsD)(kc bt bp bu:Nat)(f:Int)(e:E)(U:List Int)(hk:kc<hp.length)(hc:Qc hp kc=some (ckC f bt bp bu))(hg:(bu,ag kI (aL U))∈g)(kt kp:Nat)(la:Int)(ea ab en:Bool)(P:List E)(hPl:P.length<=10000)
 (hkt:kt<hp.length) (ht:Qc hp kt=some (rnC la ea ab en (.own kp 13 0 P.length))) (hkp:kp<hp.length) (hpb:hp[kp]?=some ⟨58,true,cells encE P⟩) (hne:kt≠kp)
 (ha:P.any (aa e)=true) (hfe:f<=e.ref) (hj1:P.findIdx (aa e)+1=P.length) :
 VCallsG prog 45 [.ptr kc 0,.ptr kt 0,.agg e.d] hp g (fun r h' g'=>∃b,r=.bool b/\b=(decide ((P.getD (P.findIdx (aa e)) E0).lsn=e.ref)&&(eqC (P.getD (P.findIdx (aa e)) E0).c.inv e.c&&(!decide (e.ref∈U)&&!(P.drop (P.findIdx (aa e)+1)).any (cV e))))/\(b=true->(∃x y z,h'=Qm hp kt (rnC la ea ab en (.own (hp.length+3) 13 0 (P.length-1)))++[x,y,z,⟨58,true,cells encE (eX P (P.findIdx (aa e)))⟩])/\g'=g.map fun p=>if p.1=bu then (bu,ag kI (aL (ep U e.ref))) else p)):=by
 refine fF (fn:=Tryz.f45) Tryz.func45 rfl vw (by simp[Tryz.f45]) (fun c=>?_);have hpc:Qc hp kp=some (cells encE P):=iL hpb;unfold ckC at hc;unfold rnC at ht;refine VWpG.first (Qa c) ?_
 (unfold Tryz.f45;refine rn trivial ?_)
 refine VWpG.seq ?_;refine VWpG.drawn (k:=6) (f:=6) (Qa c) vw vw vw vw rfl ?_;refine cU vw ?_;refine rn (Ja @hk @hc) ?_;refine iK (zv:=.bool false) (L:=aL U) (k:=e.ref) rfl rfl um3 bU (eo z3) (gi rfl) rfl hg (bV rfl) ?_;rw[show(DV.pv (.lit (.bool false)))=.bool false from rfl,oz];refine rn trivial ?_;refine VWpG.seq ?_;refine VWpG.drawn (k:=6) (f:=6) (Qa c) vw vw vw vw rfl ?_;refine cU vw ?_;refine rn (Ja @hk @hc) ?_;refine fG (L:=aL U) (k:=e.ref) rfl rfl um3 bU rfl hg (bV rfl) ?_;refine rn trivial ?_;rw[show(DV.pv (.lit (.bool true)))=.bool true from rfl,oA];have hj:P.findIdx (aa e)<P.length:=Jo (by simpa using ha);have hi:=mf P vz 67 [.ip e.q] rfl (aa e) (fun x=>ox x e);rw[bA,if_pos ha] at hi;generalize P.findIdx (aa e)=j at *;have hd0:P.drop (j+1)=[]:=JJ vz;rw[hd0];have hco:VCalls prog 71 [.pv (.sl (fz encE [])),.fn (.func 72) [] [.ip e.q]] [] (Ret (.bool false)):=ow [] vj 72 [.ip e.q] rfl (cV e) (fun x=>oy x e);have hcl:VCalls prog 69 [.pv (.sl [])] [] (fO noK [] 13 0 58 (cells encE [])):=xW [] vj;have hcc:=B5 (P.take j) [] vg;have hl2:(P.take j).length+([]:List E).length=P.length-1:=vg;rw[hl2] at hcc;have hnj:P.length-j=1:=vz;have hun:eX P j=P.take j++[]:=by unfold eX;rw[hd0]
 rw[hun]
 have hft:∀hp',bw 0 hp' 0 13 j (some (cells encE P))=some (.sl (fz encE (P.take j))):=fun hp'=>by
  rw[rq (i:=0) (len:=j) rfl vz];simp
 have hj0:¬((j:Int)<0):=vz;have hA0:=B6 P j hj;have hA6:=B7 P j hj;have hlen:j*13+6+6<=P.length*13:=vz;have hlen0:¬((P.length-j:Nat):Int)=0:=vz;generalize P.getD j E0=x at *;unfold Ch.d at hA6;refine VWpG.plain (Qa c) ?_;have F:=(Ja @hk (Ja @hc (Ja @hkt (Ja @ht (Ja @hkp (Ja @hpc (Ja @hpb (Ja @hj (Ja @hj0 (Ja @hft (Ja @hfe (Ja @hA0 (Ja @hA6 (Ja @hlen (Ja @hnj @hne)))))))))))))))
 refine rn F ?_
 repeat' (first|with_reducible exact⟨⟩|(refine sG F ?_ ?_<;>intro hZ)|(refine sB F ?_ ?_<;>intro hZ)|refine vl F (hi) ?_|(refine rA (hcl) ?_ (ru _) ?_;(focus (refine rd F));refine rn F ?_)|refine vp F (BX x.c) ?_|(refine Qf (id:=7) [0,1,2,3,4,5,6] [] vw vw ?_;refine rn F ?_)|(refine Qf (id:=8) [0,1,2,3,4,5,6,7,8,9,10,11,12,13,14,15,16,18,19] [⟨[],[],17,[0,1,2,3,4,5,6,7,8,9,10,11,13,14,15,18,19],[20,21]⟩] vw vw ?_;refine rn F ?_))
 ·refine ⟨_,rfl,?_,fun h=>by cases h⟩;rw[show eqC { pg:=x.c.pg,sl:=x.c.sl,b:=x.c.a,a:=x.c.b } e.c=false from ?_]
  ·rfl
  ·unfold eqC;rw[J6];intro h;simp at h;exact hZ h.1 h.2.1 h.2.2.1 h.2.2.2.1 h.2.2.2.2.1 h.2.2.2.2.2
 ·rw [show eqC { pg:=x.c.pg,sl:=x.c.sl,b:=x.c.a,a:=x.c.b } e.c = true from by unfold eqC;simp;exact hZ];refine rA hcc (congrArg (fun o=>Qi [o]) (B9 (d1:=.own kp 13 0 j) (d2:=.own (hp.length+1) 13 0 0) (p1:=.sl (fz encE (P.take j))) (p2:=.sl (fz encE [])) ?_ ?_ ?_)) (ru _) ?_
  ·(refine rn (Ja @hk @hkp) ?_;try with_reducible exact⟨⟩)
  ·refine (ry (i:=0) (l:=P) ?_ rfl vz).trans vv;(refine rn (Ja @hkp @hpc) ?_;try with_reducible exact⟨⟩)
  ·refine (ry (i:=0) (l:=[]) ?_ rfl vv).trans vv;(refine rn (Ja @hkp @hpc) ?_;try with_reducible exact⟨⟩)
  refine rn (Ja @hk (Ja @hc (Ja @hkt (Ja @ht (Ja @hkp (Ja @hpc (Ja @hpb @hne))))))) ?_;obtain⟨hp2,hS⟩:∃h,h=Qm hp kt (rnC la ea ab en (.own (hp.length+1+1+1) 13 0 (P.length-1))):=⟨_,rfl⟩
  have hS0:=hS;unfold rnC at hS;rw[<-hS];have hlp:hp2.length=hp.length:=by rw[hS,Qv]
  have F:=(Ja @hk @hlp)
  refine rn F ?_
  repeat' (first|with_reducible exact⟨⟩|(refine sG F ?_ ?_<;>intro hZ)|refine vl F (hco) ?_)
  ·exact⟨_,rfl,rfl,fun _=>⟨_,_,_,by rw[hS0];simp only[Jc,JP,JI];rfl⟩⟩
  ·exact⟨_,rfl,rfl,fun h=>by cases h⟩
 ·exact⟨_,rfl,rfl,fun h=>by cases h⟩
end
section
attribute [local go_sem] Ce.d Ch.d E.d bD cL cM cN cP cQ cR fB fC fD E.q Jq iv iw
def oB(hp:Qb)(kp:Nat)(P:List E)(p:DV):Prop:=(P=[]/\p=.pv (.slc []))\/(p=.own kp 13 0 P.length/\kp<hp.length/\hp[kp]?=some ⟨58,true,cells encE P⟩)
def RunOk(hp:Qb)(k kp:Nat)(la:Int)(ea ab en:Bool)(P:List E):Prop:=k<hp.length/\∃p,Qc hp k=some (rnC la ea ab en p)/\oB hp kp P p
def bb(e:E)(ea ab:Bool)(P:List E):Bool:=(!ab||decide (e.kind=5))&&(!decide (e.kind=5)||(ab||ea)&&P.isEmpty)
def nP(e:E)(P:List E):List E:=if e.kind=1 then P++[e] else P
def nab(e:E)(ab:Bool):Bool:=ab||decide (e.kind=4)
def nen(e:E)(en:Bool):Bool:=en||decide (e.kind=3)||decide (e.kind=5)
def Left(hp:Qb)(k kp:Nat)(la:Int)(ea ab en:Bool)(P:List E)(h':Qb):Prop:=FrH hp h' (fun j=>j=k\/j=kp)/\∃kp',(kp'=kp\/hp.length<=kp')/\RunOk h' k kp' la ea ab en P
def Cc(hkk:k<hp.length)(hkc:Qc hp k=some (rnC la ea ab en p))(hp0:oB hp kp P p):Left hp k kp la ea ab en P hp:=⟨FrH.refl _ _,kp,.inl rfl,hkk,p,hkc,hp0⟩
def rB(hkk:k<hp.length)(hkc:Qc hp k=some (rnC la ea ab en p))(hp0:oB hp kp P p)(h1:k≠kp):Left hp k kp la ea ab' en' P (Qm hp k (rnC la ea ab' en' p)):=by
 refine⟨(FrH.refl _ _).set (.inl rfl) _,kp,.inl rfl,by rw[Qv];exact hkk,p,by rw[kM,hkc];rfl,?_⟩;rcases hp0 with h|⟨e1,e2,e3⟩
 ·exact .inl h
 ·exact .inr ⟨e1,by rw[Qv];exact e2,by rw[mh h1];exact e3⟩
def On(hkk:k<hp.length)(hkc:Qc hp k=some (rnC la ea ab en p))(h1:k≠kp)(hkp:kp<hp.length):
 Left hp k kp la ea ab en (P++[e]) (Qm (List.set hp kp B) k (rnC la ea ab en (.own (hp.length+1) 13 0 (P.length+1)))++[x]++[⟨58,true,cells encE (P++[e])⟩]):=by
 have hl:(Qm (List.set hp kp B) k (rnC la ea ab en (.own (hp.length+1) 13 0 (P.length+1)))).length=hp.length:=by rw[Qv,Oo]
 refine⟨⟨by simp[hl],fun j hj ha=>?_⟩,hp.length+1,.inr vz,by simp[hl];omega,.own (hp.length+1) 13 0 (P.length+1),?_,.inr ⟨vv,by simp[hl],?_⟩⟩
 ·rw[Jn (by simp[hl];omega),Jn vz,mh (fun h=>ha (.inl h.symm)),Cd (fun h=>ha (.inr h.symm))]
 ·rw[Qr (by simp[hl];omega),Qr vz,kM,Cf (Ne.symm h1),hkc];rfl
 ·rw[rC (by simp[hl])];simp[hl]
def Oq(c:bN)(hp:Qb)(g:MapsD)(b kb kc bt bp bu:Nat)(f:Int)(e:E)(L:List (Int×DV))(hkb:kb<hp.length)(hb:Qc hp kb=some e.d)(hk:kc<hp.length)(hc:Qc hp kc=some (ckC f bt bp bu))(hg:(bt,ag kI L)∈g)
 (k kp:Nat) (la:Int) (ea ab en:Bool) (P:List E) (hPl:P.length<=10000) (hkk:k<hp.length) (hkc:Qc hp k=some (rnC la ea ab en (.own kp 13 0 P.length))) (hkp:kp<hp.length) (hpb:hp[kp]?=some ⟨58,true,cells encE P⟩) (hn:aq L e.tx=some (.ptr k 0))
 (h1:k≠kp) (h2:k≠kc) (h3:k≠kb) (h4:kp≠kc) (h5:kp≠kb) (hk2:e.kind≠2) :
 VWpG prog (MapsIn c) (eM 3 (dP Tryz.f34)) (fH prog [.tmp 4] fun r h' g'=>∃b,r=.bool b/\b=bb e ea ab P/\(b=true->g'=g/\Left hp k kp la ea (nab e ab) (nen e en) (nP e P) h')) ⟨97,b,[(3,.ptr kb 0),(0,.ptr kc 0)],hp⟩ g:=by
 have hpc:Qc hp kp=some (cells encE P):=iL hpb;have hkc0:=hkc;have hp0:oB hp kp P (.own kp 13 0 P.length):=.inr ⟨rfl,hkp,hpb⟩;have m1:(P.length+1)*128<=140737488355328:=vz;unfold ckC at hc;unfold rnC at hkc;unfold E.d at hb;have hkind:e.kind=1\/e.kind=3\/e.kind=4\/e.kind=5\/(e.kind≠1/\e.kind≠3/\e.kind≠4/\e.kind≠5):=vz;have fl:e.kind=1->bb e ea ab P=!ab/\nP e P=P++[e]/\nab e ab=ab/\nen e en=en:=fun h=>by simp[bb,nP,nab,nen,h]
 have fl3:e.kind=3->bb e ea ab P=!ab/\nP e P=P/\nab e ab=ab/\nen e en=true:=fun h=>by simp[bb,nP,nab,nen,h]
 have fl4:e.kind=4->bb e ea ab P=!ab/\nP e P=P/\nab e ab=true/\nen e en=en:=fun h=>by simp[bb,nP,nab,nen,h]
 have fl5:e.kind=5->bb e ea ab P=((ab||ea)&&P.isEmpty)/\nP e P=P/\nab e ab=ab/\nen e en=true:=fun h=>by simp[bb,nP,nab,nen,h]
 have fl0:(e.kind≠1/\e.kind≠3/\e.kind≠4/\e.kind≠5)->bb e ea ab P=!ab/\nP e P=P/\nab e ab=ab/\nen e en=en:=fun h=>by simp[bb,nP,nab,nen,h]
 have hle:((P.length:Int)==0)=P.isEmpty:=by cases P<;>simp;omega
 show VWpG prog (MapsIn c) (.seq _ _) _ _ _
 refine VWpG.seq ?_;refine VWpG.drawn (k:=6) (f:=6) (Qa c) vw vw vw vw rfl ?_;refine cU vw ?_;refine rn (Ja @hk (Ja @hc (Ja @hb @hkb))) ?_;refine iK (zv:=.pointer none) (L:=L) (k:=e.tx) rfl rfl um1 bU (eo z1) (gi rfl) rfl hg (bV rfl) ?_;rw[hn];refine rn trivial ?_;refine VWpG.plain (Qa c) ?_;rcases hkind with hq|hq|hq|hq|⟨q1,q3,q4,q5⟩
 ·obtain ⟨f1,f2,f3,f4⟩:=fl hq;rw[f1,f2,f3,f4];cases ab
  ·skip
   have F:=(Ja @hk (Ja @hc (Ja @hb (Ja @hkb (Ja @hkk (Ja @hkc (Ja @hkp (Ja @hpb (Ja @hpc (Ja @h1 (Ja @h2 (Ja @h3 (Ja @h4 (Ja @h5 (Ja @hk2 (Ja @m1 (Ja @h1.symm (Ja @h2.symm (Ja @h3.symm (Ja @h4.symm (Ja @h5.symm ((eq_true hq)))))))))))))))))))))))
   refine rn F ?_
   repeat' (first|with_reducible exact⟨⟩|(refine Qf (id:=10) [0,1,2,3,4,5] [⟨[6],[6],7,[0,1,2,3,5],[8,9]⟩,⟨[],[],10,[8],[]⟩] vw vw ?_;refine rn F ?_))
   exact⟨_,rfl,rfl,fun h=>On hkk hkc0 h1 hkp⟩
  ·skip
   have F:=(Ja @hk (Ja @hc (Ja @hb (Ja @hkb (Ja @hkk (Ja @hkc (Ja @hkp (Ja @hpb (Ja @hpc (Ja @h1 (Ja @h2 (Ja @h3 (Ja @h4 (Ja @h5 (Ja @hk2 (Ja @m1 (Ja @h1.symm (Ja @h2.symm (Ja @h3.symm (Ja @h4.symm (Ja @h5.symm ((eq_true hq)))))))))))))))))))))))
   refine rn F ?_;exact⟨_,rfl,rfl,fun h=>by cases h⟩
 ·obtain ⟨f1,f2,f3,f4⟩:=fl3 hq;rw[f1,f2,f3,f4];cases ab
  ·skip
   have F:=(Ja @hk (Ja @hc (Ja @hb (Ja @hkb (Ja @hkk (Ja @hkc (Ja @hkp (Ja @hpb (Ja @hpc (Ja @h1 (Ja @h2 (Ja @h3 (Ja @h4 (Ja @h5 (Ja @hk2 (Ja @m1 (Ja @h1.symm (Ja @h2.symm (Ja @h3.symm (Ja @h4.symm (Ja @h5.symm (Ja (eq_true hq) @hq))))))))))))))))))))))
   refine rn F ?_;exact⟨_,rfl,rfl,fun h=>rB hkk hkc0 hp0 h1⟩
  ·skip
   have F:=(Ja @hk (Ja @hc (Ja @hb (Ja @hkb (Ja @hkk (Ja @hkc (Ja @hkp (Ja @hpb (Ja @hpc (Ja @h1 (Ja @h2 (Ja @h3 (Ja @h4 (Ja @h5 (Ja @hk2 (Ja @m1 (Ja @h1.symm (Ja @h2.symm (Ja @h3.symm (Ja @h4.symm (Ja @h5.symm (Ja (eq_true hq) @hq))))))))))))))))))))))
   refine rn F ?_;exact⟨_,rfl,rfl,fun h=>by cases h⟩
 ·obtain ⟨f1,f2,f3,f4⟩:=fl4 hq;rw[f1,f2,f3,f4];cases ab
  ·skip
   have F:=(Ja @hk (Ja @hc (Ja @hb (Ja @hkb (Ja @hkk (Ja @hkc (Ja @hkp (Ja @hpb (Ja @hpc (Ja @h1 (Ja @h2 (Ja @h3 (Ja @h4 (Ja @h5 (Ja @hk2 (Ja @m1 (Ja @h1.symm (Ja @h2.symm (Ja @h3.symm (Ja @h4.symm (Ja @h5.symm (Ja (eq_true hq) @hq))))))))))))))))))))))
   refine rn F ?_;exact⟨_,rfl,rfl,fun h=>rB hkk hkc0 hp0 h1⟩
  ·skip
   have F:=(Ja @hk (Ja @hc (Ja @hb (Ja @hkb (Ja @hkk (Ja @hkc (Ja @hkp (Ja @hpb (Ja @hpc (Ja @h1 (Ja @h2 (Ja @h3 (Ja @h4 (Ja @h5 (Ja @hk2 (Ja @m1 (Ja @h1.symm (Ja @h2.symm (Ja @h3.symm (Ja @h4.symm (Ja @h5.symm (Ja (eq_true hq) @hq))))))))))))))))))))))
   refine rn F ?_;exact⟨_,rfl,rfl,fun h=>by cases h⟩
 ·obtain ⟨f1,f2,f3,f4⟩:=fl5 hq;rw[f1,f2,f3,f4];cases ab
  ·cases ea
   ·skip
    have F:=(Ja @hk (Ja @hc (Ja @hb (Ja @hkb (Ja @hkk (Ja @hkc (Ja @hkp (Ja @hpb (Ja @hpc (Ja @h1 (Ja @h2 (Ja @h3 (Ja @h4 (Ja @h5 (Ja @hk2 (Ja @m1 (Ja @h1.symm (Ja @h2.symm (Ja @h3.symm (Ja @h4.symm (Ja @h5.symm (Ja @hq @hle))))))))))))))))))))))
    refine rn F ?_;exact⟨_,rfl,rfl,fun h=>by cases h⟩
   ·skip
    have F:=(Ja @hk (Ja @hc (Ja @hb (Ja @hkb (Ja @hkk (Ja @hkc (Ja @hkp (Ja @hpb (Ja @hpc (Ja @h1 (Ja @h2 (Ja @h3 (Ja @h4 (Ja @h5 (Ja @hk2 (Ja @m1 (Ja @h1.symm (Ja @h2.symm (Ja @h3.symm (Ja @h4.symm (Ja @h5.symm (Ja @hq @hle))))))))))))))))))))))
    refine rn F ?_;exact⟨_,rfl,rfl,fun h=>rB hkk hkc0 hp0 h1⟩
  ·skip
   have F:=(Ja @hk (Ja @hc (Ja @hb (Ja @hkb (Ja @hkk (Ja @hkc (Ja @hkp (Ja @hpb (Ja @hpc (Ja @h1 (Ja @h2 (Ja @h3 (Ja @h4 (Ja @h5 (Ja @hk2 (Ja @m1 (Ja @h1.symm (Ja @h2.symm (Ja @h3.symm (Ja @h4.symm (Ja @h5.symm (Ja @hq @hle))))))))))))))))))))))
   refine rn F ?_;exact⟨_,rfl,rfl,fun h=>rB hkk hkc0 hp0 h1⟩
 ·obtain ⟨f1,f2,f3,f4⟩:=fl0 ⟨q1,q3,q4,q5⟩;rw[f1,f2,f3,f4];cases ab
  ·skip
   have F:=(Ja @hk (Ja @hc (Ja @hb (Ja @hkb (Ja @hkk (Ja @hkc (Ja @hkp (Ja @hpb (Ja @hpc (Ja @h1 (Ja @h2 (Ja @h3 (Ja @h4 (Ja @h5 (Ja @hk2 (Ja @m1 (Ja @h1.symm (Ja @h2.symm (Ja @h3.symm (Ja @h4.symm (Ja @h5.symm (Ja @q1 (Ja @q3 (Ja @q4 @q5))))))))))))))))))))))))
   refine rn F ?_;exact⟨_,rfl,rfl,fun h=>Cc hkk hkc0 hp0⟩
  ·skip
   have F:=(Ja @hk (Ja @hc (Ja @hb (Ja @hkb (Ja @hkk (Ja @hkc (Ja @hkp (Ja @hpb (Ja @hpc (Ja @h1 (Ja @h2 (Ja @h3 (Ja @h4 (Ja @h5 (Ja @hk2 (Ja @m1 (Ja @h1.symm (Ja @h2.symm (Ja @h3.symm (Ja @h4.symm (Ja @h5.symm (Ja @q1 (Ja @q3 (Ja @q4 @q5))))))))))))))))))))))))
   refine rn F ?_;exact⟨_,rfl,rfl,fun h=>by cases h⟩
end
section
attribute [local go_sem] Ce.d Ch.d E.d bD cL cM cN cP cQ cR fB fC fD E.q Jq iv iw
def rD(hkk:k<hp.length)(hkc:Qc hp k=some (rnC la ea ab en (.pv (.slc [])))):Left hp k kp la ea ab' en' [] (Qm hp k (rnC la ea ab' en' (.pv (.slc [])))):=
 ⟨(FrH.refl _ _).set (.inl rfl) _,kp,.inl rfl,by rw[Qv];exact hkk,.pv (.slc []),by rw[kM,hkc];rfl,.inl ⟨rfl,rfl⟩⟩
def Ot(hkk:k<hp.length)(hkc:Qc hp k=some (rnC la ea ab en p)):
 Left hp k kp la ea ab en [e] (Qm hp k (rnC la ea ab en (.own (hp.length+1) 13 0 1))++[x]++[⟨58,true,cells encE [e]⟩]):=by
 have hl:(Qm hp k (rnC la ea ab en (.own (hp.length+1) 13 0 1))).length=hp.length:=by rw[Qv]
 refine⟨⟨by simp[hl],fun j hj ha=>?_⟩,hp.length+1,.inr vz,by simp[hl];omega,.own (hp.length+1) 13 0 1,?_,.inr ⟨rfl,by simp[hl],?_⟩⟩
 ·rw[Jn (by simp[hl];omega),Jn vz,mh (fun h=>ha (.inl h.symm))]
 ·rw[Qr (by simp[hl];omega),Qr vz,kM,hkc];rfl
 ·rw[rC (by simp[hl])];simp[hl]
def Ou(c:bN)(hp:Qb)(g:MapsD)(b kb kc bt bp bu:Nat)(f:Int)(e:E)(L:List (Int×DV))(hkb:kb<hp.length)(hb:Qc hp kb=some e.d)(hk:kc<hp.length)(hc:Qc hp kc=some (ckC f bt bp bu))(hg:(bt,ag kI L)∈g)
 (k kp:Nat) (la:Int) (ea ab en:Bool) (hkk:k<hp.length) (hkc:Qc hp k=some (rnC la ea ab en (.pv (.slc [])))) (hn:aq L e.tx=some (.ptr k 0))
 (h2:k≠kc) (h3:k≠kb) (hk2:e.kind≠2) :
 VWpG prog (MapsIn c) (eM 3 (dP Tryz.f34)) (fH prog [.tmp 4] fun r h' g'=>∃b,r=.bool b/\b=bb e ea ab []/\(b=true->g'=g/\Left hp k kp la ea (nab e ab) (nen e en) (nP e []) h')) ⟨97,b,[(3,.ptr kb 0),(0,.ptr kc 0)],hp⟩ g:=by
 have hkc0:=hkc;have hp0:oB hp kp [] (.pv (.slc [])):=.inl ⟨rfl,rfl⟩;unfold ckC at hc;unfold rnC at hkc;unfold E.d at hb;have hkind:e.kind=1\/e.kind=3\/e.kind=4\/e.kind=5\/(e.kind≠1/\e.kind≠3/\e.kind≠4/\e.kind≠5):=vz;have fl:e.kind=1->bb e ea ab []=!ab/\nP e []=[e]/\nab e ab=ab/\nen e en=en:=fun h=>by simp[bb,nP,nab,nen,h]
 have fl3:e.kind=3->bb e ea ab []=!ab/\nP e []=[]/\nab e ab=ab/\nen e en=true:=fun h=>by simp[bb,nP,nab,nen,h]
 have fl4:e.kind=4->bb e ea ab []=!ab/\nP e []=[]/\nab e ab=true/\nen e en=en:=fun h=>by simp[bb,nP,nab,nen,h]
 have fl5:e.kind=5->bb e ea ab []=((ab||ea)&&true)/\nP e []=[]/\nab e ab=ab/\nen e en=true:=fun h=>by simp[bb,nP,nab,nen,h]
 have fl0:(e.kind≠1/\e.kind≠3/\e.kind≠4/\e.kind≠5)->bb e ea ab []=!ab/\nP e []=[]/\nab e ab=ab/\nen e en=en:=fun h=>by simp[bb,nP,nab,nen,h]
 have hle:(((0:Nat):Int)==0)=true:=rfl;show VWpG prog (MapsIn c) (.seq _ _) _ _ _
 refine VWpG.seq ?_;refine VWpG.drawn (k:=6) (f:=6) (Qa c) vw vw vw vw rfl ?_;refine cU vw ?_;refine rn (Ja @hk (Ja @hc (Ja @hb @hkb))) ?_;refine iK (zv:=.pointer none) (L:=L) (k:=e.tx) rfl rfl um1 bU (eo z1) (gi rfl) rfl hg (bV rfl) ?_;rw[hn];refine rn trivial ?_;refine VWpG.plain (Qa c) ?_;rcases hkind with hq|hq|hq|hq|⟨q1,q3,q4,q5⟩
 ·obtain ⟨f1,f2,f3,f4⟩:=fl hq;rw[f1,f2,f3,f4];cases ab
  ·skip
   have F:=(Ja @hk (Ja @hc (Ja @hb (Ja @hkb (Ja @hkk (Ja @hkc (Ja @h2 (Ja @h3 (Ja @hk2 (Ja @h2.symm (Ja @h3.symm ((eq_true hq)))))))))))))
   refine rn F ?_
   repeat' (first|with_reducible exact⟨⟩|(refine Qf (id:=10) [0,1,2,3,4,5] [⟨[6],[6],7,[0,1,2,3,5],[8,9]⟩,⟨[],[],10,[8],[]⟩] vw vw ?_;refine rn F ?_))
   exact⟨_,rfl,rfl,fun h=>Ot hkk hkc0⟩
  ·skip
   have F:=(Ja @hk (Ja @hc (Ja @hb (Ja @hkb (Ja @hkk (Ja @hkc (Ja @h2 (Ja @h3 (Ja @hk2 (Ja @h2.symm (Ja @h3.symm ((eq_true hq)))))))))))))
   refine rn F ?_;exact⟨_,rfl,rfl,fun h=>by cases h⟩
 ·obtain ⟨f1,f2,f3,f4⟩:=fl3 hq;rw[f1,f2,f3,f4];cases ab
  ·skip
   have F:=(Ja @hk (Ja @hc (Ja @hb (Ja @hkb (Ja @hkk (Ja @hkc (Ja @h2 (Ja @h3 (Ja @hk2 (Ja @h2.symm (Ja @h3.symm (Ja (eq_true hq) @hq))))))))))))
   refine rn F ?_;exact⟨_,rfl,rfl,fun h=>rD hkk hkc0⟩
  ·skip
   have F:=(Ja @hk (Ja @hc (Ja @hb (Ja @hkb (Ja @hkk (Ja @hkc (Ja @h2 (Ja @h3 (Ja @hk2 (Ja @h2.symm (Ja @h3.symm (Ja (eq_true hq) @hq))))))))))))
   refine rn F ?_;exact⟨_,rfl,rfl,fun h=>by cases h⟩
 ·obtain ⟨f1,f2,f3,f4⟩:=fl4 hq;rw[f1,f2,f3,f4];cases ab
  ·skip
   have F:=(Ja @hk (Ja @hc (Ja @hb (Ja @hkb (Ja @hkk (Ja @hkc (Ja @h2 (Ja @h3 (Ja @hk2 (Ja @h2.symm (Ja @h3.symm (Ja (eq_true hq) @hq))))))))))))
   refine rn F ?_;exact⟨_,rfl,rfl,fun h=>rD hkk hkc0⟩
  ·skip
   have F:=(Ja @hk (Ja @hc (Ja @hb (Ja @hkb (Ja @hkk (Ja @hkc (Ja @h2 (Ja @h3 (Ja @hk2 (Ja @h2.symm (Ja @h3.symm (Ja (eq_true hq) @hq))))))))))))
   refine rn F ?_;exact⟨_,rfl,rfl,fun h=>by cases h⟩
 ·obtain ⟨f1,f2,f3,f4⟩:=fl5 hq;rw[f1,f2,f3,f4];cases ab
  ·cases ea
   ·skip
    have F:=(Ja @hk (Ja @hc (Ja @hb (Ja @hkb (Ja @hkk (Ja @hkc (Ja @h2 (Ja @h3 (Ja @hk2 (Ja @h2.symm (Ja @h3.symm (Ja @hq @hle))))))))))))
    refine rn F ?_;exact⟨_,rfl,rfl,fun h=>by cases h⟩
   ·skip
    have F:=(Ja @hk (Ja @hc (Ja @hb (Ja @hkb (Ja @hkk (Ja @hkc (Ja @h2 (Ja @h3 (Ja @hk2 (Ja @h2.symm (Ja @h3.symm (Ja @hq @hle))))))))))))
    refine rn F ?_;exact⟨_,rfl,rfl,fun h=>rD hkk hkc0⟩
  ·skip
   have F:=(Ja @hk (Ja @hc (Ja @hb (Ja @hkb (Ja @hkk (Ja @hkc (Ja @h2 (Ja @h3 (Ja @hk2 (Ja @h2.symm (Ja @h3.symm (Ja @hq @hle))))))))))))
   refine rn F ?_;exact⟨_,rfl,rfl,fun h=>rD hkk hkc0⟩
 ·obtain ⟨f1,f2,f3,f4⟩:=fl0 ⟨q1,q3,q4,q5⟩;rw[f1,f2,f3,f4];cases ab
  ·skip
   have F:=(Ja @hk (Ja @hc (Ja @hb (Ja @hkb (Ja @hkk (Ja @hkc (Ja @h2 (Ja @h3 (Ja @hk2 (Ja @h2.symm (Ja @h3.symm (Ja @q1 (Ja @q3 (Ja @q4 @q5))))))))))))))
   refine rn F ?_;exact⟨_,rfl,rfl,fun h=>Cc hkk hkc0 hp0⟩
  ·skip
   have F:=(Ja @hk (Ja @hc (Ja @hb (Ja @hkb (Ja @hkk (Ja @hkc (Ja @h2 (Ja @h3 (Ja @hk2 (Ja @h2.symm (Ja @h3.symm (Ja @q1 (Ja @q3 (Ja @q4 @q5))))))))))))))
   refine rn F ?_;exact⟨_,rfl,rfl,fun h=>by cases h⟩
end
section
attribute [local go_sem] Ce.d Ch.d E.d bD cL cM cN cP cQ cR fB fC fD E.q Jq iv iw
def eY (f:Int) (U:List Int) (P:List E) (e:E):Bool:=!decide (e.ref ∈ U) && (if P.any (aa e) = true then
    (if f<=e.ref then decide ((P.getD (P.findIdx (aa e)) E0).lsn=e.ref)&&(eqC (P.getD (P.findIdx (aa e)) E0).c.inv e.c&&!(P.drop (P.findIdx (aa e)+1)).any (cV e)) else !(P.drop (P.findIdx (aa e))).any (cV e))
 else decide (e.ref<f))
def gj(f:Int)(P:List E)(e:E):List E:=if f<=e.ref then eX P (P.findIdx (aa e)) else P
def RunOk.app(h:RunOk hp k kp la ea ab en P):RunOk (hp++r) k kp la ea ab en P:=by
 obtain⟨h1,p,h2,h3⟩:=h;refine⟨by rw[Jb];omega,p,by rw[Qr h1];exact h2,?_⟩;rcases h3 with h|⟨e1,e2,e3⟩
 ·exact .inl h
 ·exact .inr ⟨e1,by rw[Jb];omega,by rw[Jn e2];exact e3⟩
def Left.ofRun(h:RunOk hp k kp la ea ab en P):Left hp k kp la ea ab en P (hp++r):=⟨(FrH.refl _ _).app r,kp,.inl rfl,h.app⟩
def Ov(hkk:k<hp.length)(hkc:Qc hp k=some (rnC la ea ab en p))(hn:P.length=n):
 Left hp k kp la ea ab en P (Qm hp k (rnC la ea ab en (.own (hp.length+3) 13 0 n))++[x,y,z,⟨58,true,cells encE P⟩]):=by
 have hl:(Qm hp k (rnC la ea ab en (.own (hp.length+3) 13 0 n))).length=hp.length:=by rw[Qv]
 refine⟨((FrH.refl _ _).set (.inl rfl) _).app _,hp.length+3,.inr vz,by simp[hl];omega,.own (hp.length+3) 13 0 n,?_,.inr ⟨by rw[hn],by simp[hl],?_⟩⟩
 ·rw[Qr vz,kM,hkc];rfl
 ·rw[rC (by simp[hl])];simp[hl]
def Ow(hp:Qb)(g:MapsD)(kc bt bp bu:Nat)(f:Int)(e:E)(U:List Int)(hk:kc<hp.length)(hc:Qc hp kc=some (ckC f bt bp bu))(hg:(bu,ag kI (aL U))∈g)(k kp:Nat)(la:Int)(ea ab en:Bool)(P:List E)(hPl:P.length<=10000)(hr:RunOk hp k kp la ea ab en P)(hne:k≠kp) :
 VCallsG prog 45 [.ptr kc 0,.ptr k 0,.agg e.d] hp g (fun r h' g'=>∃b,r=.bool b/\b=eY f U P e/\(b=true->Left hp k kp la ea ab en (gj f P e) h'/\g'=g.map fun p=>if p.1=bu then (bu,ag kI (aL (ep U e.ref))) else p)):=by
 have hr0:=hr;obtain⟨hkk,p,hkc,hp0⟩:=hr;rcases hp0 with⟨rfl,rfl⟩|⟨rfl,hkp,hpb⟩
 ·refine (Og hp g kc bt bp bu f e U hk hc hg k la ea ab en hkk hkc).mono ?_;rintro r h' g' ⟨b,e1,e2,e3⟩;refine⟨b,e1,?_,fun hb=>?_⟩
  ·rw[e2];simp[eY,KD]
  ·obtain ⟨⟨x,rfl⟩,e4⟩:=e3 hb;refine⟨?_,e4⟩;rw[show gj f [] e=[] by unfold gj eX;simp];exact Left.ofRun hr0
 by_cases ha:P.any (aa e)=true
 ·have hj:P.findIdx (aa e) < P.length:=Jo (by simpa using ha);by_cases hf:f<=e.ref
  ·have hlen:(eX P (P.findIdx (aa e))).length = P.length - 1:=by simp [eX];omega
   have fin:∀r (h':Qb) (g':MapsD),(∃b,r=DV.bool b/\b=(decide ((P.getD (P.findIdx (aa e)) E0).lsn=e.ref)&&(eqC (P.getD (P.findIdx (aa e)) E0).c.inv e.c&&(!decide (e.ref∈U)&&!(P.drop (P.findIdx (aa e)+1)).any (cV e))))/\(b=true->(∃x y z,h'=Qm hp k (rnC la ea ab en (.own (hp.length+3) 13 0 (P.length-1)))++[x,y,z,⟨58,true,cells encE (eX P (P.findIdx (aa e)))⟩])/\g'=g.map fun p=>if p.1=bu then (bu,ag kI (aL (ep U e.ref))) else p)) ->
    ∃b,r=.bool b/\b=eY f U P e/\(b=true->Left hp k kp la ea ab en (gj f P e) h'/\g'=g.map fun p=>if p.1=bu then (bu,ag kI (aL (ep U e.ref))) else p):=by
    rintro r h' g' ⟨b,e1,e2,e3⟩;refine⟨b,e1,?_,fun hb=>?_⟩
    ·rw [e2,eY,if_pos ha,if_pos hf];generalize decide (e.ref∈U)=q1;generalize decide ((P.getD (P.findIdx (aa e)) E0).lsn=e.ref)=q2;generalize eqC _ _=q3;generalize List.any _ _=q4;cases q1<;>cases q2<;>cases q3<;>rfl
    ·obtain ⟨⟨x,y,z,rfl⟩,e4⟩:=e3 hb;refine⟨?_,e4⟩;rw[gj,if_pos hf];exact Ov hkk hkc hlen
   by_cases hj1:P.findIdx (aa e)+1=P.length
   ·exact(Om hp g kc bt bp bu f e U hk hc hg k kp la ea ab en P hPl hkk hkc hkp hpb hne ha hf hj1).mono fin
   ·exact(Ol hp g kc bt bp bu f e U hk hc hg k kp la ea ab en P hPl hkk hkc hkp hpb hne ha hf vz).mono fin
  ·refine (Oj hp g kc bt bp bu f e U hk hc hg k kp la ea ab en P hPl hkk hkc hkp hpb hne ha hf).mono ?_;rintro r h' g' ⟨b,e1,e2,e3⟩;refine⟨b,e1,?_,fun hb=>?_⟩
   ·rw[e2,eY,if_pos ha,if_neg hf]
   ·obtain ⟨⟨x,rfl⟩,e4⟩:=e3 hb;refine⟨?_,e4⟩;rw[gj,if_neg hf];exact Left.ofRun hr0
 ·have ha':P.any (aa e) = false:=by simpa using ha
  refine(Ok hp g kc bt bp bu f e U hk hc hg k kp la ea ab en P hPl hkk hkc hkp hpb hne ha').mono ?_;rintro r h' g' ⟨b,e1,e2,e3⟩;refine⟨b,e1,?_,fun hb=>?_⟩
  ·rw[e2,eY,if_neg ha,KD]
  ·obtain ⟨⟨x,rfl⟩,e4⟩:=e3 hb;refine⟨?_,e4⟩
   have hf:¬f<=e.ref:=by
    rw[e2] at hb;simp at hb;omega
   rw[gj,if_neg hf];exact Left.ofRun hr0
def Ox(c:bN)(hp:Qb)(g:MapsD)(b kb kc bt bp bu:Nat)(f:Int)(e:E)(L:List (Int×DV))(U:List Int)(hkb:kb<hp.length)(hb:Qc hp kb=some e.d)(hk:kc<hp.length)(hc:Qc hp kc=some (ckC f bt bp bu))(hg:(bt,ag kI L)∈g)(hgu:(bu,ag kI (aL U))∈g)
 (k kp:Nat) (la:Int) (ea ab en:Bool) (P:List E) (hPl:P.length<=10000) (hr:RunOk hp k kp la ea ab en P) (hn:aq L e.tx=some (.ptr k 0)) (h1:k≠kp) (hk2:e.kind=2) :
 VWpG prog (MapsIn c) (eM 3 (dP Tryz.f34)) (fH prog [.tmp 4] fun r h' g'=>∃b,r=.bool b/\b=eY f U P e/\(b=true->Left hp k kp la ea ab en (gj f P e) h'/\g'=g.map fun p=>if p.1=bu then (bu,ag kI (aL (ep U e.ref))) else p)) ⟨97,b,[(3,.ptr kb 0),(0,.ptr kc 0)],hp⟩ g:=by
 have hcu:=Ow hp g kc bt bp bu f e U hk hc hgu k kp la ea ab en P hPl hr h1;obtain⟨hkk,p,hkc,hp0⟩:=hr;unfold ckC at hc;unfold rnC at hkc;unfold E.d at hb hcu;show VWpG prog (MapsIn c) (.seq _ _) _ _ _
 refine VWpG.seq ?_;refine VWpG.drawn (k:=6) (f:=6) (Qa c) vw vw vw vw rfl ?_;refine cU vw ?_;refine rn (Ja @hk (Ja @hc (Ja @hb @hkb))) ?_;refine iK (zv:=.pointer none) (L:=L) (k:=e.tx) rfl rfl um1 bU (eo z1) (gi rfl) rfl hg (bV rfl) ?_;rw[hn];refine rn trivial ?_;refine VWpG.seq ?_;have d2:(e.kind=2)=True:=eq_true hk2;have d1:¬e.kind=1:=vz;refine VWpG.first (Qa c) ?_
 cases ab
 ·(refine rn (Ja @hk (Ja @hc (Ja @hb (Ja @hkb (Ja @hkk (Ja @hkc @d2)))))) ?_;try with_reducible exact ⟨⟩)
  refine VWpG.cond rfl (fun hZ=>?_) (fun hZ=>?_)
  ·cases hZ
  refine VWpG.plain (Qa c) ?_;refine rn trivial ?_;refine VWpG.seq ?_;refine VWpG.first (Qa c) ?_
  refine rn (Ja @hb @hkb) ?_;refine VWpG.block ?_;refine VWpG.first (Qa c) ?_
  refine rn @d1 ?_;refine VWpG.cond rfl (fun hZ=>?_) (fun hZ=>?_)
  ·cases hZ
  refine VWpG.first (Qa c) ?_
  refine rn @d2 ?_;refine VWpG.cond rfl (fun hZ=>?_) (fun hZ=>?_)
  ·refine VWpG.seq ?_;refine VWpG.cut1 (Qa c) 3 [] ?_;refine rn (Ja @hk (Ja @hc (Ja @hb (Ja @hkb (Ja @hkk @hkc))))) ?_;refine kN rfl rfl rfl hcu ?_;rintro r h' g' ⟨b',rfl,e2,e3⟩;refine rn trivial ?_;refine VWpG.plain (Qa c) ?_;refine rn trivial ?_;exact⟨b',rfl,e2,e3⟩
  ·cases hZ
 ·(refine rn (Ja @hk (Ja @hc (Ja @hb (Ja @hkb (Ja @hkk (Ja @hkc @d2)))))) ?_;try with_reducible exact ⟨⟩)
  refine VWpG.cond rfl (fun hZ=>?_) (fun hZ=>?_)
  ·cases hZ
  refine VWpG.plain (Qa c) ?_;refine rn trivial ?_;refine VWpG.seq ?_;refine VWpG.first (Qa c) ?_
  refine rn (Ja @hb @hkb) ?_;refine VWpG.block ?_;refine VWpG.first (Qa c) ?_
  refine rn @d1 ?_;refine VWpG.cond rfl (fun hZ=>?_) (fun hZ=>?_)
  ·cases hZ
  refine VWpG.first (Qa c) ?_
  refine rn @d2 ?_;refine VWpG.cond rfl (fun hZ=>?_) (fun hZ=>?_)
  ·refine VWpG.seq ?_;refine VWpG.cut1 (Qa c) 3 [] ?_;refine rn (Ja @hk (Ja @hc (Ja @hb (Ja @hkb (Ja @hkk @hkc))))) ?_;refine kN rfl rfl rfl hcu ?_;rintro r h' g' ⟨b',rfl,e2,e3⟩;refine rn trivial ?_;refine VWpG.plain (Qa c) ?_;refine rn trivial ?_;exact⟨b',rfl,e2,e3⟩
  ·cases hZ
end
section
attribute [local go_sem] Ce.d Ch.d E.d bD cL cM cN cP cQ cR fB fC fD E.q Jq iv iw
def ar(x:E):Bool:=x.kind==1||x.kind==2
def ckG(bt bp bu:Nat)(L:List (Int×DV))(Pg:List (Int×Int))(U:List Int):MapsD:=[(bt,ag kI L),(bp,ag kI (eW Pg)),(bu,ag kI (aL U))]
def gW(f:Int)(U:List Int)(e:E)(ea ab:Bool)(P:List E):Bool:=if e.kind=2 then eY f U P e else bb e ea ab P
def dG(f:Int)(e:E)(P:List E):List E:=if e.kind=2 then gj f P e else nP e P
def iM(U:List Int)(e:E):List Int:=if e.kind=2 then ep U e.ref else U
def Oy(h1:bt≠bp)(h3:bp≠bu)(L:List (Int×DV))(Pg Pg':List (Int×Int))(U:List Int):((ckG bt bp bu L Pg U).map fun p=>if p.1=bp then (bp,ag kI (eW Pg')) else p)=ckG bt bp bu L Pg' U:=by
 simp[ckG,h1,Ne.symm h3]
def Oz(h1:bt≠bu)(h3:bp≠bu)(L:List (Int×DV))(Pg:List (Int×Int))(U U':List Int):((ckG bt bp bu L Pg U).map fun p=>if p.1=bu then (bu,ag kI (aL U')) else p)=ckG bt bp bu L Pg U':=by
 simp[ckG,h1,h3]
def OA(h1:bt≠bp)(h3:bt≠bu)(L L':List (Int×DV))(Pg:List (Int×Int))(U:List Int):((ckG bt bp bu L Pg U).map fun p=>if p.1=bt then (bt,ag kI L') else p)=ckG bt bp bu L' Pg U:=by
 simp[ckG,Ne.symm h1,Ne.symm h3]
def oC(hh:∀r h g,R r h g->R' r h g):∀e S g,fH P rs R e S g->fH P rs R' e S g:=fun e S g h=>by
 unfold fH at h |-;cases e<;>dsimp only at h |-<;>first|exact h|(split at h<;>first|exact hh _ _ _ h|exact h)
def Cg(c:bN)(hp:Qb)(b kb kc bt bp bu:Nat)(hbb:bt≠bp/\bt≠bu/\bp≠bu)(f:Int)(e:E)(L:List (Int×DV))(Pg:List (Int×Int))(U:List Int)(hkb:kb<hp.length)(hb:Qc hp kb=some e.d)(hk:kc<hp.length)(hc:Qc hp kc=some (ckC f bt bp bu))
 (k kp:Nat) (la:Int) (ea ab en:Bool) (P:List E) (hPl:P.length<=10000) (hr:RunOk hp k kp la ea ab en P) (hn:aq L e.tx=some (.ptr k 0)) (h1:k≠kp) (h2:k≠kc) (h3:k≠kb) (h4:kp≠kc) (h5:kp≠kb) :
 VWpG prog (MapsIn c) (eM 3 (dP Tryz.f34)) (fH prog [.tmp 4] fun r h' g'=>∃b,r=.bool b/\b=gW f U e ea ab P/\(b=true->Left hp k kp la ea (nab e ab) (nen e en) (dG f e P) h'/\g'=ckG bt bp bu L Pg (iM U e))) ⟨97,b,[(3,.ptr kb 0),(0,.ptr kc 0)],hp⟩ (ckG bt bp bu L Pg U):=by
 have hgt:(bt,ag kI L)∈ckG bt bp bu L Pg U:=by simp[ckG]
 have hgu:(bu,ag kI (aL U))∈ckG bt bp bu L Pg U:=by simp[ckG]
 by_cases hk2:e.kind=2
 ·refine (Ox c hp _ b kb kc bt bp bu f e L U hkb hb hk hc hgt hgu k kp la ea ab en P hPl hr hn h1 hk2).mono (oC ?_);rintro r h' g' ⟨b,e1,e2,e3⟩;refine⟨b,e1,by rw[e2,gW,if_pos hk2],fun hb=>?_⟩;obtain⟨e4,e5⟩:=e3 hb;rw[Oz hbb.2.1 hbb.2.2] at e5;rw[dG,if_pos hk2,iM,if_pos hk2,show nab e ab=ab by simp[nab,hk2],show nen e en=en by simp[nen,hk2]];exact⟨e4,e5⟩
 ·obtain ⟨hkk,p,hkc,hp0⟩:=hr
  have fin:∀(r:DV) (h':Qb) (g':MapsD),(∃b,r=.bool b/\b=bb e ea ab P/\(b=true->g'=ckG bt bp bu L Pg U/\Left hp k kp la ea (nab e ab) (nen e en) (nP e P) h'))->∃b,r=.bool b/\b=gW f U e ea ab P/\(b=true->Left hp k kp la ea (nab e ab) (nen e en) (dG f e P) h'/\g'=ckG bt bp bu L Pg (iM U e)):=by
   rintro r h' g' ⟨b,e1,e2,e3⟩;refine⟨b,e1,by rw[e2,gW,if_neg hk2],fun hb=>?_⟩;obtain⟨e4,e5⟩:=e3 hb;rw[dG,if_neg hk2,iM,if_neg hk2];exact⟨e5,e4⟩
  rcases hp0 with⟨rfl,rfl⟩|⟨rfl,hkp,hpb⟩
  ·exact(Ou c hp _ b kb kc bt bp bu f e L hkb hb hk hc hgt k kp la ea ab en hkk hkc hn h2 h3 hk2).mono (oC fin)
  ·exact(Oq c hp _ b kb kc bt bp bu f e L hkb hb hk hc hgt k kp la ea ab en P hPl hkk hkc hkp hpb hn h1 h2 h3 h4 h5 hk2).mono (oC fin)
def uZ(hp:Qb)(kc:Nat)(e:E)(k kp:Nat)(ea ab en:Bool)(P:List E)(h':Qb):Prop:=kc<h'.length/\Qc h' kc=Qc hp kc/\hp.length+1<=h'.length/\Qc h' hp.length=some e.d/\RunOk h' k kp e.lsn ea ab en P/\FrH hp h' (fun j=>j=k\/j=kp)
def Ci(hp:Qb)(kc bt bp bu:Nat)(hbb:bt≠bp/\bt≠bu/\bp≠bu)(f:Int)(e:E)(L L':List (Int×DV))(Pg:List (Int×Int))(U:List Int)(hk:kc<hp.length)(hc:Qc hp kc=some (ckC f bt bp bu))(htx:e.tx≠0)
 (k kp:Nat) (rb ea ab en:Bool) (P:List E) (hPl:P.length<=10000) (hn:aq L' e.tx=some (.ptr k 0)) (h1:k≠kp) (h2:k≠kc) (h3:k≠hp.length) (h4:kp≠kc) (h5:kp≠hp.length)
 (hright:∀B:Blk,B=⟨58,true,e.d⟩->VCallsG prog 43 [.ptr kc 0,.agg e.d] (hp++[B]) (ckG bt bp bu L Pg U) (fun r h' g'=>r=.bool rb/\uZ hp kc e k kp ea ab en P h'/\g'=ckG bt bp bu L' Pg U)) :
 VCallsG prog 34 [.ptr kc 0,.agg e.d] hp (ckG bt bp bu L Pg U) (fun r h' g'=>∃ b,r=.bool b/\b=(rb&&((!ar e||pagedB f Pg e)&&gW f U e ea ab P)) /\
  (b=true->FrH hp h' (fun j=>j=k\/j=kp)/\(∃ kp',(kp'=kp\/hp.length<=kp')/\RunOk h' k kp' e.lsn ea (nab e ab) (nen e en) (dG f e P))/\g'=ckG bt bp bu L' (if ar e=true then fE Pg e.c.pg e.lsn else Pg) (iM U e))):=by
 have hr0:=hright _ rfl;refine fF (fn:=Tryz.f34) Tryz.func34 rfl vw (by simp[Tryz.f34]) (fun c=>?_);have hc0:=hc;unfold ckC at hc;unfold E.d at hr0;refine VWpG.first (Qa c) ?_
 (unfold Tryz.f34;refine rn trivial ?_)
 refine VWpG.seq ?_;refine VWpG.first (Qa c) ?_
 refine rn @htx ?_;refine VWpG.cond rfl (fun hZ=>?_) (fun hZ=>?_)
 ·cases hZ
 refine VWpG.plain (Qa c) ?_;refine rn trivial ?_;refine VWpG.seq ?_;refine VWpG.seq ?_;refine VWpG.cut1 (Qa c) 2 [7] ?_;refine rn trivial ?_;refine kN rfl rfl rfl hr0 ?_;rintro r h1' g1 ⟨rfl,⟨q1,q2,q3,q4,q5,q6⟩,rfl⟩;have q4':Qc h1' hp.length=some [.int .i64 e.lsn,.int .i64 e.kind,.int .i64 e.tx,.int .i64 e.ptx,.int .i64 e.ppg,.int .i64 e.ref,.int .i64 e.c.pg,.int .i64 e.c.sl,.bool e.c.b.set,.pv (.str e.c.b.data),.bool e.c.a.set,.pv (.str e.c.a.data),.pv (.str e.blob)]:=q4;have q2':=q2;rw[hc] at q2';have hl3:hp.length<h1'.length:=vz;have hcg:VCalls prog 20 [.agg [.int .i64 e.lsn,.int .i64 e.kind,.int .i64 e.tx,.int .i64 e.ptx,.int .i64 e.ppg,.int .i64 e.ref,.int .i64 e.c.pg,.int .i64 e.c.sl,.bool e.c.b.set,.pv (.str e.c.b.data),.bool e.c.a.set,.pv (.str e.c.a.data),.pv (.str e.blob)]] [] (Ret (.bool (ar e))):=th e;refine mg ?_;cases rb
 ·(refine rn trivial ?_;try with_reducible exact ⟨⟩)
  refine Cj rfl rfl ?_;refine rn trivial ?_;refine VWpG.cond rfl (fun hZ=>?_) (fun hZ=>?_)
  ·refine VWpG.plain (Qa c) ?_;refine rn trivial ?_;exact⟨false,rfl,rfl,fun h=>by cases h⟩
  ·cases hZ
 cases hch:ar e
 ·rw [hch] at hcg;refine rn (Ja @q4' @hl3) ?_;refine bZ hcg rfl ?_;refine rn trivial ?_;refine Cj rfl rfl ?_;refine rn trivial ?_;refine VWpG.cond rfl (fun hZ=>?_) (fun hZ=>?_)
  ·cases hZ
  refine VWpG.plain (Qa c) ?_;refine rn trivial ?_;refine VWpG.weakG (VWpG.mono (Cg c h1' h1'.length hp.length kc bt bp bu hbb f e L' Pg U hl3 q4 q1 (q2.trans hc0) k kp e.lsn ea ab en P hPl q5 hn h1 h2 h3 h4 h5) (oC ?_)) (WeakG.slots rfl rfl ?_)
  ·rintro r h' g' ⟨b,e1,e2,e3⟩;refine⟨b,e1,e2,fun hb=>?_⟩;obtain⟨⟨e4,kp',e5,e6⟩,e7⟩:=e3 hb;exact⟨q6.trans e4 fun _ _ h=>h,⟨kp',e5.imp id fun h=>by omega,e6⟩,e7⟩
  ·intro p hp;simp only[Jj,JH,or_false] at hp;rcases hp with rfl|rfl<;>exact .inl rfl
 ·rw [hch] at hcg;refine rn (Ja @q4' @hl3) ?_;refine bZ hcg rfl ?_;refine rn (Ja @q4' @hl3) ?_;refine kN rfl rfl rfl (N7 h1' _ kc bt bp bu f e Pg q1 (q2.trans hc0) (by simp[ckG])) ?_;rintro r h2' g2 ⟨rfl,⟨x,rfl⟩,rfl⟩;refine rn trivial ?_;rw[Oy hbb.1 hbb.2.2];cases hpb:pagedB f Pg e
  ·refine VWpG.cond rfl (fun hZ=>?_) (fun hZ=>?_)
   ·refine VWpG.plain (Qa c) ?_;refine rn trivial ?_;exact⟨false,rfl,rfl,fun h=>by cases h⟩
   ·cases hZ
  ·refine VWpG.cond rfl (fun hZ=>?_) (fun hZ=>?_)
   ·cases hZ
   refine VWpG.plain (Qa c) ?_;refine rn trivial ?_;refine VWpG.weakG (VWpG.mono (Cg c (h1'++[x]) (h1'.length+1) hp.length kc bt bp bu hbb f e L' (fE Pg e.c.pg e.lsn) U vg ((Qr hl3).trans q4) vg ((Qr q1).trans (q2.trans hc0)) k kp e.lsn ea ab en P hPl q5.app hn h1 h2 h3 h4 h5) (oC ?_)) (WeakG.slots rfl rfl ?_)
   ·rintro r h' g' ⟨b,e1,e2,e3⟩;refine⟨b,e1,e2,fun hb=>?_⟩;obtain⟨⟨e4,kp',e5,e6⟩,e7⟩:=e3 hb;exact⟨(q6.app [x]).trans e4 fun _ _ h=>h,⟨kp',e5.imp id fun h=>by simp at h;omega,e6⟩,e7⟩
   ·intro p hp;simp only[Jj,JH,or_false] at hp;rcases hp with rfl|rfl<;>exact .inl rfl
end
def RunP(hp:Qb)(k:Nat)(kpo:Option Nat)(la:Int)(ea ab en:Bool)(P:List E):Prop:=k<hp.length/\match kpo with
 |none=>P=[]/\Qc hp k=some (rnC la ea ab en (.pv (.slc [])))
 |some kp=>Qc hp k=some (rnC la ea ab en (.own kp 13 0 P.length))/\kp<hp.length/\hp[kp]?=some ⟨58,true,cells encE P⟩
def RunP.ok(h:RunP hp k kpo la ea ab en P):RunOk hp k (kpo.getD (hp.length+7)) la ea ab en P:=by
 obtain⟨h1,h2⟩:=h;cases kpo with
 |none=>exact⟨h1,_,h2.2,.inl ⟨h2.1,rfl⟩⟩
 |some kp=>exact⟨h1,_,h2.1,.inr ⟨rfl,h2.2.1,h2.2.2⟩⟩
def RunOk.toP(h:RunOk hp k kp la ea ab en P):RunP hp k none la ea ab en P\/(RunP hp k (some kp) la ea ab en P):=by
 obtain⟨h1,p,h2,h3⟩:=h;rcases h3 with⟨rfl,rfl⟩|⟨rfl,h4,h5⟩
 ·exact .inl ⟨h1,rfl,h2⟩
 ·exact .inr ⟨h1,h2,h4,h5⟩
def RunP.fr(h:RunP hp k kpo la ea ab en P)(hf:FrH hp h' A)(hk:¬A k)(hkp:∀kp,kpo=some kp->¬A kp):RunP h' k kpo la ea ab en P:=by
 obtain⟨h1,h2⟩:=h;have hb:=Cm (hf.same k h1 hk);refine⟨Kk h1 hf.len,?_⟩;cases kpo with
 |none=>exact⟨h2.1,by rw[hb];exact h2.2⟩
 |some kp=>exact⟨by rw[hb];exact h2.1,Kk h2.2.1 hf.len,by rw[hf.same kp h2.2.1 (hkp kp rfl)];exact h2.2.2⟩
def OB(hp:Qb)(kc bt bp bu:Nat)(f:Int)(e:E)(L:List (Int×DV))(Pg:List (Int×Int))(U:List Int)(hk:kc<hp.length)(hc:Qc hp kc=some (ckC f bt bp bu))(k kp:Nat)(la:Int)(ea ab en:Bool)(P:List E)(hr:RunOk hp k kp la ea ab en P)(hn:aq L e.tx=some (.ptr k 0))(h1:k≠kp)(h2:k≠kc)(h5:kp≠hp.length)(B:Blk)(hB:B=⟨58,true,e.d⟩) :
 VCallsG prog 43 [.ptr kc 0,.agg e.d] (hp++[B]) (ckG bt bp bu L Pg U) (fun r h' g'=>r=.bool (decide (e.ptx=la)&&!en)/\uZ hp kc e k kp ea ab en P h'/\g'=ckG bt bp bu L Pg U):=by
 have hr':=hr.app (r:=[B]);obtain⟨hkk,p,hkc,hp0⟩:=hr;refine(Oa (hp++[B]) _ kc bt bp bu f e L vg ((Qr hk).trans hc) (by simp[ckG]) k la ea ab en p vg ((Qr hkk).trans hkc) hn).mono ?_;rintro r h' g' ⟨rfl,⟨x,rfl⟩,rfl⟩;have hl:(Qm (hp++[B]) k (rnC e.lsn ea ab en p)).length=hp.length+1:=by rw[Qv];simp
 have hfr:FrH hp (Qm (hp++[B]) k (rnC e.lsn ea ab en p)++[x]) (fun j=>j=k\/j=kp):=((((FrH.refl _ _).app [B])).set (.inl rfl) _).app _;refine⟨rfl,⟨by simp[hl];omega,?_,by simp[hl],?_,⟨by simp[hl];omega,p,?_,?_⟩,hfr⟩,rfl⟩
 ·rw[Qr vz,Cn h2,Qr hk]
 ·rw[Qr vz,Cn vz,u0,hB]<;>rfl
 ·rw[Qr vz,kM,Qr hkk,hkc]<;>rfl
 ·rcases hp0 with h|⟨e1,e2,e3⟩
  ·exact .inl h
  ·exact .inr ⟨e1,by simp[hl];omega,by rw[Jn vz,mh h1,Jn e2];exact e3⟩
def OC(hp:Qb)(kc bt bp bu:Nat)(hbb:bt≠bp/\bt≠bu/\bp≠bu)(f:Int)(e:E)(L:List (Int×DV))(Pg:List (Int×Int))(U:List Int)(hk:kc<hp.length)(hc:Qc hp kc=some (ckC f bt bp bu))(hn:aq L e.tx=none)(kp:Nat)(B:Blk)(hB:B=⟨58,true,e.d⟩) :
 VCallsG prog 43 [.ptr kc 0,.agg e.d] (hp++[B]) (ckG bt bp bu L Pg U) (fun r h' g'=>r=.bool (decide (e.ptx<f))/\uZ hp kc e (hp.length+2) kp (decide (0<e.ptx)) false false [] h'/\g'=ckG bt bp bu (aR L e.tx (.ptr (hp.length+2) 0)) Pg U):=by
 refine(N8 (hp++[B]) _ kc bt bp bu f e L vg ((Qr hk).trans hc) (by simp[ckG]) hn).mono ?_;rintro r h' g' ⟨rfl,⟨x,rfl⟩,rfl⟩;have hl:(hp++[B]).length=hp.length+1:=vv;refine⟨rfl,⟨by simp<;>omega,?_,by simp<;>omega,?_,⟨vv,.pv (.slc []),?_,.inl ⟨rfl,rfl⟩⟩,(((FrH.refl _ _).app [B]).app [x]).app _⟩,?_⟩
 ·rw[Qr vg,Qr vg,Qr hk]
 ·rw[Qr vv,Qr vv,u0,hB];rfl
 ·rw[u5 vv];simp[Qc]
 ·rw[OA hbb.1 hbb.2.1,hl]
structure Tr where
 tx:Int
 last:Int
 ea:Bool
 ab:Bool
 en:Bool
 P:List E
structure Ck where
 T:List Tr
 Pg:List (Int×Int)
 U:List Int
def setT:List Tr->Tr->List Tr
 |[],t=>[t]
 |a::r,t=>if a.tx=t.tx then t::r else a::setT r t
def gX(T:List Tr)(x:Int):Option Tr:=T.find? fun t=>decide (t.tx=x)
def ckB(f:Int)(A:Ck)(e:E):Bool:=if e.tx=0 then true else match gX A.T e.tx with
 |some t=>(decide (e.ptx=t.last)&&!t.en)&&((!ar e||pagedB f A.Pg e)&&gW f A.U e t.ea t.ab t.P)
 |none=>decide (e.ptx<f)&&((!ar e||pagedB f A.Pg e)&&gW f A.U e (decide (0<e.ptx)) false [])
def ckS(f:Int)(A:Ck)(e:E):Ck:=if e.tx=0 then A else match gX A.T e.tx with
 |some t=>⟨setT A.T ⟨e.tx,e.lsn,t.ea,nab e t.ab,nen e t.en,dG f e t.P⟩,if ar e=true then fE A.Pg e.c.pg e.lsn else A.Pg,iM A.U e⟩
 |none=>⟨setT A.T ⟨e.tx,e.lsn,decide (0<e.ptx),nab e false,nen e false,dG f e []⟩,if ar e=true then fE A.Pg e.c.pg e.lsn else A.Pg,iM A.U e⟩
structure TX where
 t:Tr
 k:Nat
 kp:Option Nat
def TX.pos(x:TX):List Nat:=x.k::x.kp.toList
def gk(X:List TX):List (Int×DV):=X.map fun x=>(x.t.tx,.ptr x.k 0)
structure RepX(f:Int)(kc bt bp bu:Nat)(hp:Qb)(X:List TX):Prop where
 hk:kc<hp.length
 hc:Qc hp kc=some (ckC f bt bp bu)
 run:∀x∈X,RunP hp x.k x.kp x.t.last x.t.ea x.t.ab x.t.en x.t.P
 nd:(kc::X.flatMap TX.pos).Nodup
def Rep(f:Int)(kc bt bp bu:Nat)(n:Nat)(hp:Qb)(g:MapsD)(A:Ck):Prop:=∃X:List TX,X.map (·.t)=A.T/\g=ckG bt bp bu (gk X) A.Pg A.U/\RepX f kc bt bp bu hp X/\∀t∈A.T,t.P.length<=n
def OD (X:List TX) (x:Int):aq (gk X) x = (X.find? fun y=>decide (y.t.tx = x)).map fun y=>.ptr y.k 0:=by
 induction X with
 |nil=>rfl
 |cons a r ih =>
   unfold gk at ih |-;simp only[JB,aq,Kh];by_cases h:a.t.tx=x
   ·simp[h]
   ·simp[h,ih]
def OE(X:List TX)(x:Int):gX (X.map (·.t)) x=(X.find? fun y=>decide (y.t.tx=x)).map (·.t):=by
 unfold gX;rw[List.find?_map];rfl
def Co(f:Int)(e:E)(P:List E):(dG f e P).length<=P.length+1:=by
 unfold dG gj eX nP;grind
def OG(h:RepX f kc bt bp bu hp X):∀j∈X.flatMap TX.pos,j<hp.length:=by
 intro j hj;obtain⟨x,hx,hj⟩:=J9.1 hj;obtain⟨h1,h2⟩:=h.run x hx;unfold TX.pos at hj;grind
def Cq(T1 T2:List Tr)(t t':Tr)(h:∀y∈T1,y.tx≠t'.tx)(ht:t.tx=t'.tx):setT (T1++t::T2) t'=T1++t'::T2:=by
 induction T1 with
 |nil=>simp[setT,ht]
 |cons a r ih=>simp only[JP,setT];rw[if_neg (h a vv),ih fun y hy=>h y (Jm _ hy)]
def OH(T:List Tr)(t':Tr)(h:∀y∈T,y.tx≠t'.tx):setT T t'=T++[t']:=by
 induction T with
 |nil=>rfl
 |cons a r ih=>simp only[setT];rw[if_neg (h a vv),ih fun y hy=>h y (Jm _ hy)];rfl
def RunP.ne(h:RunP hp k (some kp) la ea ab en P):kp≠k:=fun e=>by
 obtain⟨_,h1,_,h2⟩:=h;rw[e] at h2;have:=iL h2;rw[h1] at this;have:=congrArg List.length (KW.inj this);rw[bD] at this;simp[rnC] at this;omega
def OI(h:(kc::(X1++x::X2).flatMap TX.pos).Nodup):x.pos.Nodup/\kc ∉ x.pos/\(∀j∈X1.flatMap TX.pos,j ∉ x.pos)/\(∀j∈X2.flatMap TX.pos,j ∉ x.pos)/\(kc::(X1++X2).flatMap TX.pos).Nodup:=by
 grind
def OJ(h1:x.pos.Nodup)(h2:kc ∉ x.pos)(h3:∀j∈X1.flatMap TX.pos,j ∉ x.pos)(h4:∀j∈X2.flatMap TX.pos,j ∉ x.pos)(h5:(kc::(X1++X2).flatMap TX.pos).Nodup):(kc::(X1++x::X2).flatMap TX.pos).Nodup:=by
 simp only[Jw,Jx,JV,KF,Jh,not_or] at h5 |-;grind
def Ct{f:Int}{kc bt bp bu:Nat}{hp h':Qb}{X1 X2:List TX}{t':Tr}{k kp kp':Nat}{A:Nat->Prop}(hR:RepX f kc bt bp bu hp (X1++X2))(hfr:FrH hp h' A)(hkc:¬A kc)(hA:∀j∈(X1++X2).flatMap TX.pos,¬A j)(hk:k≠kc/\k ∉ (X1++X2).flatMap TX.pos)(hkp:(kp'≠kc/\kp' ∉ (X1++X2).flatMap TX.pos))
 (hrun:RunOk h' k kp' t'.last t'.ea t'.ab t'.en t'.P):∃kpo,RepX f kc bt bp bu h' (X1++⟨t',k,kpo⟩::X2):=by
 have old:∀y∈X1++X2,RunP h' y.k y.kp y.t.last y.t.ea y.t.ab y.t.en y.t.P:=fun y hy=>
  (hR.run y hy).fr hfr (hA _ (J9.2 ⟨y,hy,by simp[TX.pos]⟩)) fun kp h=>hA _ (J9.2 ⟨y,hy,by simp[TX.pos,h]⟩)
 have fin:∀kpo,RunP h' k kpo t'.last t'.ea t'.ab t'.en t'.P->(∀j∈kpo.toList,j=kp')->RepX f kc bt bp bu h' (X1++⟨t',k,kpo⟩::X2):=fun kpo hr hj=>by
  refine⟨Kk hR.hk hfr.len,by rw[Cm (hfr.same kc hR.hk hkc)];exact hR.hc,fun y hy=>?_,?_⟩
  ·rcases Jh.1 hy with hy|hy
   ·exact old y (Jd _ hy)
   ·rcases Jj.1 hy with rfl|hy
    ·exact hr
    ·exact old y (Jz _ hy)
  ·have hin:∀j,j ∈ (⟨t',k,kpo⟩:TX).pos->j = k\/j = kp':=fun j h=>by
    unfold TX.pos at h;rcases Jj.1 h with h|h
    ·exact .inl h
    ·exact .inr (hj j h)
   have hno:∀j∈(X1++X2).flatMap TX.pos,j ∉ (⟨t',k,kpo⟩:TX).pos:=fun j h h2=>by
    rcases hin j h2 with rfl|rfl
    ·exact hk.2 h
    ·exact hkp.2 h
   refine OJ ?_ (fun h=>?_) (fun j h=>hno j (by rw[Jw];exact Jd _ h)) (fun j h=>hno j (by rw[Jw];exact Jz _ h)) hR.nd
   ·cases kpo with
    |none=>simp[TX.pos]
    |some q=>have:=hr.ne;simp[TX.pos,Ne.symm this]
   ·rcases hin kc h with e|e
    ·exact hk.1 e.symm
    ·exact hkp.1 e.symm
 rcases hrun.toP with h|h
 ·exact⟨none,fin none h vv⟩
 ·exact⟨some kp',fin _ h vv⟩
def OK(X1 X2:List TX)(t t':Tr)(k:Nat)(kp kp':Option Nat)(h:t.tx=t'.tx):gk (X1++⟨t',k,kp'⟩::X2)=gk (X1++⟨t,k,kp⟩::X2):=by
 simp[gk,h]
def Cu{n:Nat}{T1 T2:List Tr}{t':Tr}(h:∀t∈T1++T2,t.P.length<=n)(h':t'.P.length<=n+1):∀t∈T1++t'::T2,t.P.length<=n+1:=fun t ht=>by
 rcases Jh.1 ht with ht|ht
 ·exact JW (h t (Jd _ ht))
 ·rcases Jj.1 ht with rfl|ht
  ·exact h'
  ·exact JW (h t (Jz _ ht))
def OL (f:Int) (kc bt bp bu n:Nat) (hbb:bt ≠ bp/\bt ≠ bu/\bp ≠ bu) (hp:Qb) (g:MapsD) (A:Ck) (e:E) (hn:n<=9000) (htx:e.tx ≠ 0) (h:Rep f kc bt bp bu n hp g A) :
 VCallsG prog 34 [.ptr kc 0,.agg e.d] hp g (fun r h' g'=>∃b,r=.bool b/\b=ckB f A e/\(b=true->Rep f kc bt bp bu (n+1) h' g' (ckS f A e))):=by
 obtain⟨X,hX,rfl,hR,hlen⟩:=h;have hget:=OD X e.tx;have hfind:=OE X e.tx;rw[hX] at hfind;have hpl:=OG hR;cases hf:X.find? (fun y=>decide (y.t.tx=e.tx)) with
 |some x =>
   rw[hf] at hget hfind;simp only[Option.map_some] at hget hfind;obtain⟨htx',X1,X2,hXe,hX1⟩:=List.find?_eq_some_iff_append.1 hf;subst hXe;have hxm:x∈X1++x::X2:=vv;have htx':x.t.tx=e.tx:=by simpa using htx'
   have hrx:=hR.run x hxm;have hlx:x.t.P.length<=n:=hlen x.t (by rw[<-hX];exact JT.2 ⟨x,hxm,rfl⟩);obtain⟨n1,n2,n3,n4,n5⟩:=OI hR.nd;have hkm:x.k∈x.pos:=by simp[TX.pos]
   have hkc:x.k≠kc:=fun h=>n2 (h▸hkm);have hkpm:∀kp,x.kp=some kp->kp∈x.pos:=fun kp h=>by simp[TX.pos,h]
   have hkp:x.k≠x.kp.getD (hp.length+7):=by
    cases hkp:x.kp with
    |none=>have:=hrx.1;simp;omega
    |some kp=>unfold TX.pos at n1;rw[hkp] at n1;simp at n1 |-;exact n1
   have hkpc:x.kp.getD (hp.length+7)≠kc:=by
    cases hkp:x.kp with
    |none=>have:=hR.hk;simp;omega
    |some kp=>exact fun h=>n2 (h▸hkpm kp hkp)
   have hkpl:x.kp.getD (hp.length+7)≠hp.length:=by
    cases hkp:x.kp with
    |none=>simp
    |some kp=>rw[hkp] at hrx;have:=hrx.2.2.1;simp;omega
   have hkl:x.k≠hp.length:=by have:=hrx.1;omega
   have hsub:∀j∈(X1++X2).flatMap TX.pos,j<hp.length/\j ∉ x.pos:=fun j hj=>by
    rw[Jw] at hj
    have:j∈(X1++x::X2).flatMap TX.pos:=by
     rw[Jw,Jx];rcases Jh.1 hj with h|h
     ·exact Jd _ h
     ·exact Jz _ (Jz _ h)
    exact⟨hpl j this,(Jh.1 hj).elim (n3 j) (n4 j)⟩
   have hnA:∀j,j<hp.length->j ∉ x.pos->¬(j=x.k\/j=x.kp.getD (hp.length+7)):=fun j hj hx h=>by
    rcases h with rfl|h
    ·exact hx hkm
    ·cases hkp:x.kp with
     |none=>rw[hkp] at h;simp at h;omega
     |some kp=>rw[hkp] at h;exact hx (by rw[h];exact hkpm kp hkp)
   refine(Ci hp kc bt bp bu hbb f e _ _ A.Pg A.U hR.hk hR.hc htx x.k (x.kp.getD (hp.length+7)) _ x.t.ea x.t.ab x.t.en x.t.P vz hget hkp hkc hkl hkpc hkpl
    (OB hp kc bt bp bu f e _ A.Pg A.U hR.hk hR.hc x.k (x.kp.getD (hp.length+7)) x.t.last x.t.ea x.t.ab x.t.en x.t.P hrx.ok hget hkp hkc hkpl)).mono ?_
   rintro r h' g' ⟨b,e1,e2,e3⟩;refine⟨b,e1,by rw[e2,ckB,if_neg htx,hfind],fun hb=>?_⟩;obtain⟨hfr,⟨kp',hk',hrun⟩,rfl⟩:=e3 hb;have hR':RepX f kc bt bp bu hp (X1++X2):=⟨hR.hk,hR.hc,fun y hy=>hR.run y (by rcases Jh.1 hy with h|h;exact Jd _ h;exact Jz _ (Jm _ h)),n5⟩
   obtain⟨kpo,hR2⟩:=Ct (t':=⟨e.tx,e.lsn,x.t.ea,nab e x.t.ab,nen e x.t.en,dG f e x.t.P⟩) (k:=x.k) (kp:=0) (kp':=kp') hR' hfr (hnA kc hR.hk n2) (fun j hj=>hnA j (hsub j hj).1 (hsub j hj).2) ⟨hkc,fun h=>(hsub _ h).2 hkm⟩
    ⟨by rcases hk' with rfl | h; exact hkpc; have:=hR.hk; omega,fun h=>by
     have h1:=hsub _ h;rcases hk' with rfl|h2
     ·exact hnA _ h1.1 h1.2 (.inr rfl)
     ·omega⟩ hrun
   rw[ckS,if_neg htx,hfind];refine⟨_,?_,?_,hR2,?_⟩
   ·rw [<-hX];simp only[Kx,JB]
    exact(Cq _ _ _ _ (fun y hy=>by
     obtain⟨z,hz,rfl⟩:=JT.1 hy;have:=hX1 z hz
     simpa using this) htx').symm
   ·obtain ⟨xt,xk,xkp⟩:=x;rw[OK X1 X2 xt _ xk xkp kpo htx']
   ·rw [<-hX] at hlen |-;simp only[Kx,JB] at hlen |-
    rw[Cq _ _ _ _ (fun y hy=>by
     obtain⟨z,hz,rfl⟩:=JT.1 hy;have:=hX1 z hz
     simpa using this) htx']
    exact Cu (fun t ht=>hlen t (by rcases Jh.1 ht with h|h;exact Jd _ h;exact Jz _ (Jm _ h))) (JS (Co f e _) vz)
 |none =>
   rw[hf] at hget hfind;simp only[Option.map_none] at hget hfind
   have hno:∀y∈X,y.t.tx≠e.tx:=fun y hy=>by
    have:=List.find?_eq_none.1 hf y hy;simpa using this
   have hput:aR (gk X) e.tx (.ptr (hp.length+2) 0)=gk X++[(e.tx,.ptr (hp.length+2) 0)]:=by
    have:((gk X).map (·.1)).findIdx? (fun x=>decide (x=e.tx))=none:=by
     rw[List.findIdx?_eq_none_iff];intro q hq;obtain⟨p,hp',rfl⟩:=JT.1 hq;obtain⟨y,hy,rfl⟩:=JT.1 hp';simpa using hno y hy
    exact(Cv _ _ _ this).1
   have hget':aq (aR (gk X) e.tx (.ptr (hp.length+2) 0)) e.tx=some (.ptr (hp.length+2) 0):=by rw[Cw,if_pos rfl]
   have hkk:=hR.hk
   refine(Ci hp kc bt bp bu hbb f e _ _ A.Pg A.U hR.hk hR.hc htx (hp.length+2) (hp.length+3) _ (decide (0<e.ptx)) false false [] vv hget' vz vz vz vz vz
    (OC hp kc bt bp bu hbb f e _ A.Pg A.U hR.hk hR.hc hget (hp.length+3))).mono ?_
   rintro r h' g' ⟨b,e1,e2,e3⟩;refine⟨b,e1,by rw[e2,ckB,if_neg htx,hfind],fun hb=>?_⟩;obtain⟨hfr,⟨kp',hk',hrun⟩,rfl⟩:=e3 hb;have hge:hp.length<=kp':=by rcases hk' with rfl|h;omega;exact h
   obtain⟨kpo,hR2⟩:=Ct (X1:=X) (X2:=[]) (t':=⟨e.tx,e.lsn,decide (0<e.ptx),nab e false,nen e false,dG f e []⟩) (k:=hp.length+2) (kp:=0) (kp':=kp') (by rw[Jk];exact hR) hfr vz (fun j hj=>by rw[Jk] at hj;have:=hpl j hj;omega) ⟨vz,fun h=>by rw[Jk] at h;have:=hpl _ h;omega⟩ ⟨vz,fun h=>by rw[Jk] at h;have:=hpl _ h;omega⟩ hrun;rw[ckS,if_neg htx,hfind]
   have hset:setT A.T ⟨e.tx,e.lsn,decide (0<e.ptx),nab e false,nen e false,dG f e []⟩=A.T++[⟨e.tx,e.lsn,decide (0<e.ptx),nab e false,nen e false,dG f e []⟩]:=OH _ _ fun y hy=>by
    rw[<-hX] at hy;obtain⟨z,hz,rfl⟩:=JT.1 hy;exact hno z hz
   refine⟨_,?_,?_,hR2,?_⟩
   ·dsimp only;rw[hset,<-hX];simp
   ·rw [hput];simp[gk]
   ·dsimp only;rw[hset];exact Cu (T2:=[]) (by rw[Jk];exact hlen) (JS (Co f e _) vv)
section
attribute [local go_sem] Ce.d Ch.d E.d bD cL cM cN cP cQ cR fB fC fD E.q Jq
attribute [local go_sem] Lg.c
theorem OM:QO prog 115=some [.pv (.lit (.int .i64 0)),.pv (.lit (.map none)),.pv (.lit (.map none)),.pv (.lit (.map none))]:=vw
attribute [local go_sem] OM
def ON(hp:Qb)(g:MapsD)(kc:Nat)(e:E)(htx:e.tx=0):VCallsG prog 34 [.ptr kc 0,.agg e.d] hp g (fun r h' g'=>r=.bool true/\(∃x,h'=hp++[x])/\g'=g):=by
 refine fF (fn:=Tryz.f34) Tryz.func34 rfl vw (by simp[Tryz.f34]) (fun c=>?_);refine VWpG.first (Qa c) ?_
 (unfold Tryz.f34;refine rn trivial ?_)
 refine VWpG.seq ?_;refine VWpG.first (Qa c) ?_
 refine rn @htx ?_;refine VWpG.cond rfl (fun hZ=>?_) (fun hZ=>?_)
 ·refine VWpG.plain (Qa c) ?_;refine rn trivial ?_;exact⟨_,rfl⟩
 ·cases hZ
def Rep.app(h:Rep f kc bt bp bu n hp g A)(r:Qb):Rep f kc bt bp bu n (hp++r) g A:=by
 obtain⟨X,h1,h2,h3,h4⟩:=h;refine⟨X,h1,h2,⟨by rw[Jb];have:=h3.hk;omega,by rw[Qr h3.hk];exact h3.hc,fun x hx=>(h3.run x hx).fr ((FrH.refl hp (fun _=>False)).app r) id fun _ _=>id,h3.nd⟩,h4⟩
def Rep.le(h:Rep f kc bt bp bu n hp g A)(hm:n<=m):Rep f kc bt bp bu m hp g A:=by
 obtain⟨X,h1,h2,h3,h4⟩:=h;exact⟨X,h1,h2,h3,fun t ht=>JS (h4 t ht) hm⟩
def OO(f:Int)(kc bt bp bu n:Nat)(hbb:bt≠bp/\bt≠bu/\bp≠bu)(hp:Qb)(g:MapsD)(A:Ck)(e:E)(hn:n<=9000)(h:Rep f kc bt bp bu n hp g A) :
 VCallsG prog 34 [.ptr kc 0,.agg e.d] hp g (fun r h' g'=>∃b,r=.bool b/\b=ckB f A e/\(b=true->Rep f kc bt bp bu (n+1) h' g' (ckS f A e))):=by
 by_cases htx:e.tx=0
 ·refine (ON hp g kc e htx).mono ?_;rintro r h' g' ⟨rfl,⟨x,rfl⟩,rfl⟩;refine⟨true,rfl,by rw[ckB,if_pos htx],fun _=>?_⟩;rw[ckS,if_pos htx];exact(h.app _).le (Nat.le_succ n)
 ·exact OL f kc bt bp bu n hbb hp g A e hn htx h
def ckL(f:Int):Ck->List E->Bool
 |_,[]=>true
 |A,e::r=>ckB f A e&&ckL f (ckS f A e) r
def ckA(f:Int):Ck->List E->Ck
 |A,[]=>A
 |A,e::r=>ckA f (ckS f A e) r
def Ck0:Ck:=⟨[],[],[]⟩
def dq(x:Lg):Int:=if lgB x=true then (if ckL x.f Ck0 x.es=true then 0 else 13) else 26
def rE(f:Int):∀(l m:List E) (A:Ck),ckL f A (l++m)=(ckL f A l&&ckL f (ckA f A l) m)
 |[],m,A=>by simp[ckL,ckA]
 |e::r,m,A=>by simp only[JP,ckL,ckA,rE f r m,Bool.and_assoc]
def u6(f:Int):∀(l m:List E) (A:Ck),ckA f A (l++m)=ckA f (ckA f A l) m
 |[],m,A=>rfl
 |e::r,m,A=>by simp only[JP,ckA,u6 f r m]
def maps3{c:bN}{w0 w:World}{β:Map}{hp:Qb}{a b d:Nat×oD}(h:MapsD.At c [a,b,d] w0 w β hp):MapsD.At c [d,b,a] w0 w β hp:=by
 obtain⟨⟨h1,h2⟩,h3⟩:=h;refine⟨⟨?_,fun p hp=>h2 p (by simp at hp |-;rcases hp with h|h|h<;>simp[h])⟩,h3⟩;grind
def WeakG.trans(h:WeakG Γ S g S' g')(h':WeakG Γ S' g' S'' g''):WeakG Γ S g S'' g'':=fun O β a w hs=>by
 obtain⟨β',hs'⟩:=h O β a w hs;exact h' O β' a w hs'
def WeakG.maps3:WeakG (MapsIn c) S [a,b,d] S [d,b,a]:=fun O β ac w hs=>⟨β,hs.defers,hs.size,hs.tm,hs.heap,hs.evo,Go.Proofs.YtalibkpienbliaaGreat.maps3 hs.g⟩
def rF{l:List E}(h:i<l.length):l.take (i+1)=l.take i++[l.getD i E0]:=by
 rw[Qd l i h,Jl h]
def OP(h:i<l.length):l=l.take i++l.getD i E0::l.drop (i+1):=by
 have:=Jr (i+1) l;rw[rF h,Jc] at this;grind
structure CL(x:Lg)(bt bp bu:Nat) where
 i:Nat
 hi:i<=x.es.length
 hp:Qb
 g:MapsD
 rep:Rep x.f 1 bt bp bu i hp g (ckA x.f Ck0 (x.es.take i))
 ok:ckL x.f Ck0 (x.es.take i)=true
def OQ(x:Lg)(hx:x.es.length<=9223372036854775807):VCalls prog 21 [.agg x.c] [] (Ret (.int .i64 (dq x))):=by
 refine rG (fn:=Tryz.f21) Tryz.func21 rfl vw (by simp[Tryz.f21]) (fun c=>?_);have hv:=xV x hx;unfold Lg.c at hv;refine VWpG.first (Qa c) ?_
 (unfold Tryz.f21;refine rn trivial ?_)
 refine VWpG.seq ?_;refine VWpG.first (Qa c) ?_
 refine rn trivial ?_;refine bZ hv rfl ?_;refine rn trivial ?_;cases hlg:lgB x
 ·refine VWpG.cond rfl (fun hZ=>?_) (fun hZ=>?_)
  ·refine VWpG.plain (Qa c) ?_;refine rn trivial ?_;rw[dq,hlg];rfl
  ·cases hZ
 refine VWpG.cond rfl (fun hZ=>?_) (fun hZ=>?_)
 ·cases hZ
 refine VWpG.plain (Qa c) ?_;refine rn trivial ?_;refine VWpG.seq ?_;refine VWpG.cut1 (Qa c) 2 [0,0] ?_;refine rn trivial ?_;refine QR rfl (fun c=>by simp) (oE rfl rfl fun bt h1=>mg ?_);refine rn trivial ?_;refine QR rfl (fun c=>by simp) (oE rfl rfl fun bp h2=>mg ?_);refine rn trivial ?_;refine QR rfl (fun c=>by simp) (oE rfl rfl fun bu h3=>?_);refine rn trivial ?_;have hbb:bt≠bp/\bt≠bu/\bp≠bu:=⟨h2 (bt,[]) vv,h3 (bt,[]) vv,h3 (bp,[]) vv⟩
 have hes:x.es.length<=4096:=(bz hlg).2.2.1;refine VWpG.seq ?_;refine VWpG.first (Qa c) ?_
 refine rn trivial ?_;refine VWpG.block ?_
 have rep0:Rep x.f 1 bt bp bu 0 [⟨26,true,[.int .i64 x.f,.pv (.sl (fz encE x.es)),.int .i64 x.d]⟩,⟨115,true,[.int .i64 x.f,.pv (.lit (.map (some bt))),.pv (.lit (.map (some bp))),.pv (.lit (.map (some bu)))]⟩] [(bt,[]),(bp,[]),(bu,[])] (ckA x.f Ck0 (x.es.take 0)):=
  ⟨[],rfl,rfl,⟨vv,rfl,vv,vv⟩,by simp[ckA,Ck0]⟩
 refine VWpG.loop (fun s:CL x bt bp bu=>⟨28,2,[(19,.int .i64 s.i),(18,.int .i64 x.es.length),(17,.pv (.sl (fz encE x.es))),(3,.ptr 1 0)],s.hp⟩) (fun s=>s.g) (fun s=>x.es.length-s.i) ⟨0,JO _,_,_,rep0,rfl⟩ ?_ ?_
 ·refine WeakG.trans (WeakG.slots (S':=⟨28,2,[(19,.int .i64 (0:Nat)),(18,.int .i64 x.es.length),(17,.pv (.sl (fz encE x.es))),(3,.ptr 1 0)],_⟩) rfl rfl ?_) WeakG.maps3;intro p hp;simp only[Jj,JH,or_false] at hp;rcases hp with rfl|rfl|rfl|rfl<;>exact .inl rfl
 rintro⟨i,hi,hp,g,rep,ok⟩;dsimp only;refine VWpG.first (Qa c) ?_
 refine rn trivial ?_;refine VWpG.seq ?_;by_cases hlt:i<x.es.length
 ·have hg:=jX x.es i hlt;have hd:decide ((i:Int)<x.es.length)=true:=vg;have hrk:1<hp.length:=by obtain⟨X,_,_,h,_⟩:=rep;exact h.hk
  refine VWpG.cond (t:=true) (by rw[<-hd];rfl) (fun _=>?_) (fun h=>by cases h);refine VWpG.plain (Qa c) ?_;refine rn trivial ?_;refine VWpG.seq ?_;refine VWpG.block ?_;refine VWpG.first (Qa c) ?_
  refine rn @hg ?_;refine VWpG.seq ?_;refine VWpG.cut1 (Qa c) 2 [] ?_;refine rn trivial ?_;refine kN rfl rfl rfl (OO x.f 1 bt bp bu i hbb _ g _ (x.es.getD i E0) vz (rep.app _)) ?_;rintro r h' g' ⟨b,rfl,hb,hrep⟩;cases b
  ·(refine rn trivial ?_;try with_reducible exact ⟨⟩)
   refine VWpG.cond rfl (fun hZ=>?_) (fun hZ=>?_)
   ·refine VWpG.plain (Qa c) ?_;refine rn trivial ?_;rw[dq,if_pos hlg,if_neg];rw[OP hlt,rE,ckL,<-hb];simp
   ·cases hZ
  ·(refine rn trivial ?_;try with_reducible exact ⟨⟩)
   refine VWpG.cond rfl (fun hZ=>?_) (fun hZ=>?_)
   ·cases hZ
   refine VWpG.plain (Qa c) ?_;refine rn trivial ?_;refine VWpG.plain (Qa c) ?_;refine rn trivial ?_;have hA:ckA x.f Ck0 (x.es.take (i+1))=ckS x.f (ckA x.f Ck0 (x.es.take i)) (x.es.getD i E0):=by rw[rF hlt,u6];rfl
   refine⟨⟨i+1,hlt,h',g',by rw[hA];exact hrep rfl,by rw[rF hlt,rE,ok,ckL,<-hb];rfl⟩,vu,WeakG.slots rfl rfl ?_⟩;intro p hp;simp only[Jj,JH,or_false] at hp;rcases hp with rfl|rfl|rfl|rfl<;>exact .inl rfl
 ·have hd:decide ((i:Int) < x.es.length) = false:=vg;have hie:i=x.es.length:=vz;subst hie;refine VWpG.cond (t:=false) (by rw[<-hd];rfl) (fun h=>by cases h) (fun _=>?_);refine VWpG.plain (Qa c) ?_;refine rn trivial ?_;refine VWpG.plain (Qa c) ?_;refine rn trivial ?_;rw[JG] at ok;rw[dq,if_pos hlg,if_pos ok]
end
section
attribute [local go_sem] Ce.d Ch.d E.d Lg.c QZ bK
def exE(es:List E)(i:Nat)(p:E->Bool):Bool:=!(JD i).all fun k=>!p (es.getD k E0)
def mn(es:List E)(i:Nat)(p:E->Bool):exE es (i+1) p=(exE es i p||p (es.getD i E0)):=by
 unfold exE;grind
def undp(n:Int)(x:E):Bool:=decide (x.kind=2)&&decide (x.ref=n)
def cw(es:List E)(i:Nat)(n:Int):Bool:=exE es i (undp n)
def iN(tx pg sl ab:Int)(x:E):Bool:=decide (x.kind=1)&&(decide (x.tx=tx)&&(decide (ab<x.lsn)&&(decide (sl<0)||decide (x.c.pg=pg)&&decide (x.c.sl=sl))))
def jz(es:List E)(i:Nat)(tx pg sl ab:Int)(x:E):Bool:=iN tx pg sl ab x&&!cw es i x.lsn
def fI(es:List E)(i:Nat)(tx pg sl ab:Int):Bool:=exE es i (jz es i tx pg sl ab)
def eZ(es:List E)(pg:Int):Nat->Int
 |0=>0
 |k+1=>if ar (es.getD k E0)=true/\(es.getD k E0).c.pg=pg then (es.getD k E0).lsn else eZ es pg k
def mq(f:Int)(es:List E)(i:Nat):Bool:=if eZ es (es.getD i E0).c.pg i=0 then decide ((es.getD i E0).ppg<f) else decide ((es.getD i E0).ppg=eZ es (es.getD i E0).c.pg i)
def aI(es:List E)(tx:Int):Nat->Int
 |0=>0
 |k+1=>if (es.getD k E0).tx=tx then (es.getD k E0).lsn else aI es tx k
def cx(es:List E)(tx:Int):Nat->Bool
 |0=>false
 |k+1=>if (es.getD k E0).tx=tx then (cx es tx k||decide ((es.getD k E0).kind=4)) else cx es tx k
def eu(tx:Int)(x:E):Bool:=decide (x.tx=tx)&&(decide (x.kind=3)||decide (x.kind=5))
def dH(f tx:Int)(x:E):Bool:=decide (x.tx=tx)&&(decide (0<x.ptx)&&decide (x.ptx<f))
def rH(f:Int)(es:List E)(i:Nat):Bool:=decide (aI es (es.getD i E0).tx i=0)&&(decide (0<(es.getD i E0).ptx)&&decide ((es.getD i E0).ptx<f))
def txR(f:Int)(es:List E)(i:Nat):Bool:=
 if exE es i (eu (es.getD i E0).tx)=true then false
 else if (es.getD i E0).ptx≠aI es (es.getD i E0).tx i/\rH f es i=false then false
 else if cx es (es.getD i E0).tx i=true/\(es.getD i E0).kind≠2/\(es.getD i E0).kind≠5 then false
 else if (es.getD i E0).kind≠5 then true
 else (cx es (es.getD i E0).tx i||(rH f es i||exE es i (dH f (es.getD i E0).tx)))&&!fI es i (es.getD i E0).tx 0 (-1) 0
attribute [local go_sem] dP nH nI iv iw
end
section
attribute [local go_sem] Ce.d Ch.d E.d Lg.c QZ bK
attribute [local go_sem] dP nH nI iv iw
end
section
attribute [local go_sem] Ce.d Ch.d E.d Lg.c QZ bK
attribute [local go_sem] dP nH nI iv iw
end
section
attribute [local go_sem] Ce.d Ch.d E.d Lg.c QZ bK
def mr(f:Int)(es:List E)(i:Nat):Bool:=
 if (es.getD i E0).ref<f then !fI es i (es.getD i E0).tx (es.getD i E0).c.pg (es.getD i E0).c.sl (es.getD i E0).ref&&!cw es i (es.getD i E0).ref
 else decide ((es.getD ((es.getD i E0).ref-f).toNat E0).kind=1)&&(decide ((es.getD ((es.getD i E0).ref-f).toNat E0).tx=(es.getD i E0).tx)&&(eqC (es.getD i E0).c (es.getD ((es.getD i E0).ref-f).toNat E0).c.inv&&(!cw es i (es.getD i E0).ref&&!fI es i (es.getD i E0).tx (es.getD i E0).c.pg (es.getD i E0).c.sl (es.getD i E0).ref)))
def mu(f:Int)(es:List E)(i:Nat):Bool:=!(decide (0<(es.getD i E0).tx)&&!txR f es i)&&(!(ar (es.getD i E0)&&!mq f es i)&&!(decide ((es.getD i E0).kind=2)&&!mr f es i))
def rJ(x:Lg):Int:=if lgB x=true then (if (JD x.es.length).all (mu x.f x.es)=true then 0 else 13) else 26
end
structure EOk(f:Int)(k:Nat)(e:E):Prop where
 lsn:e.lsn=f+k
 ptx:0<=e.ptx/\e.ptx<e.lsn
 ref:0<=e.ref/\e.ref<e.lsn
 tx:(1<=e.tx/\(e.kind=1\/e.kind=2\/e.kind=3\/e.kind=4\/e.kind=5))\/(e.tx=0/\e.kind≠1/\e.kind≠2/\e.kind≠3/\e.kind≠4/\e.kind≠5)
 sl:e.kind=2->0<=e.c.sl
structure Wf(f:Int)(es:List E):Prop where
 f1:1<=f
 ok:∀k,k<es.length->EOk f k (es.getD k E0)
def Wf.of(h:lgB x=true):Wf x.f x.es:=by
 refine⟨(bz h).1,fun k hk=>?_⟩;unfold lgB at h;rw[Jf,Kr] at h;have h2:=h.2 k (J7.2 hk);unfold lgC at h2;rw[Jf] at h2;have h3:=of_decide_eq_true h2.1;have h4:=h2.2;generalize x.es.getD k E0=e at *;unfold E.okB bef at h4;simp only[Jf,decide_eq_true_eq] at h4;obtain⟨⟨⟨⟨_,a1⟩,_⟩,a2⟩,a3⟩:=h4;refine⟨h3,a1,a2,?_,?_⟩
 ·unfold E.kindB txB at a3;split at a3
  ·simp at a3;omega
  split at a3
  ·simp at a3;omega
  split at a3
  ·simp at a3;omega
  split at a3
  ·simp at a3;omega
  split at a3
  ·simp at a3;omega
  ·cases a3
 ·intro hk;unfold E.kindB at a3;rw[if_neg vz,if_pos hk] at a3;unfold Ch.okB at a3;simp at a3;omega
def exE_iff:exE es i p=true ↔ ∃k,k<i/\p (es.getD k E0)=true:=by
 unfold exE;grind
def exE_iff':exE es i p=false ↔ ∀k,k<i->p (es.getD k E0)=false:=by
 rw[J6,Ne,exE_iff];simp
def rK(es:List E)(i:Nat)(n:Int):cw es (i+1) n=(cw es i n||undp n (es.getD i E0)):=mn _ _ _
def before(es:List E)(i:Nat):List E:=(JD i).map fun k=>es.getD k E0
def OR(es:List E)(i:Nat):before es (i+1)=before es i++[es.getD i E0]:=by
 unfold before;rw[Ky,Kx];rfl
def OS:y∈before es i ↔ ∃k,k<i/\es.getD k E0=y:=by
 unfold before;simp
def OT(W:Wf f es)(hi:i<=es.length):(before es i).Pairwise fun a b=>a.lsn<b.lsn:=by
 unfold before;rw[List.pairwise_map];refine KS.imp_of_mem ?_ List.pairwise_lt_range;intro a b ha hb h;have ha:=J7.1 ha;have hb:=J7.1 hb;rw[(W.ok a vz).lsn,(W.ok b vz).lsn];omega
def aH(es:List E)(i:Nat)(x:Int):List E:=(before es i).filter fun e=>decide (e.kind=1)&&(decide (e.tx=x)&&!cw es i e.lsn)
def mem_penL:y∈aH es i x ↔ (∃k,k<i/\es.getD k E0=y)/\y.kind=1/\y.tx=x/\cw es i y.lsn=false:=by
 unfold aH;rw[Ji,OS];simp
def u7(W:Wf f es)(hi:i<=es.length)(x:Int):(aH es i x).Pairwise fun a b=>a.lsn<b.lsn:=(OT W hi).filter _
def OU(W:Wf f es)(hi:i<es.length):cw es i (f+i)=false:=by
 unfold cw;rw[exE_iff'];intro k hk;have h:=W.ok k vz;unfold undp;have h1:=h.ref.2;rw[h.lsn] at h1;grind
def u9 (W:Wf f es) (x:Int):∀i,i<=es.length->(aI es x i = 0/\∀k,k < i->(es.getD k E0).tx ≠ x)\/(f<=aI es x i/\∃k,k < i/\(es.getD k E0).tx = x)
 |0,_=>.inl ⟨rfl,fun k hk=>by omega⟩
 |i + 1,hi=>by
   rw[aI];have h:=(W.ok i vz).lsn;by_cases hx:(es.getD i E0).tx=x
   ·rw [if_pos hx];exact .inr ⟨vz,i,vz,hx⟩
   ·rw [if_neg hx];rcases u9 W x i vz with⟨h1,h2⟩|⟨h1,k,h2,h3⟩
    ·refine .inl ⟨h1,fun k hk=>?_⟩;by_cases hki:k=i
     ·rw[hki];exact hx
     ·exact h2 k vz
    ·exact .inr ⟨h1,k,vz,h3⟩
def OV (L:List (Int × Int)) (a v b:Int):dm (fE L a v) b = if a = b then some v else dm L b:=by
 induction L with
 |nil=>simp[fE,dm]
 |cons q r ih =>
   obtain⟨k,x⟩:=q;unfold fE;by_cases h:k=a
   ·subst h;simp only[if_pos,dm];split<;>simp
   ·rw [if_neg h];simp only[dm];rw[ih];by_cases h2:k=b
    ·subst h2;rw[if_pos rfl,if_neg (fun e=>h e.symm),if_pos rfl]
    ·rw[if_neg h2,if_neg h2]
def OW(U:List Int)(a b:Int):b∈ep U a ↔ b∈U\/b=a:=by
 unfold ep;grind
def Cx (T:List Tr) (t:Tr) (x:Int):gX (setT T t) x = if t.tx = x then some t else gX T x:=by
 unfold gX;induction T with
 |nil=>simp[setT,Kh];split<;>simp_all
 |cons a r ih =>
   unfold setT;by_cases h:a.tx=t.tx
   ·rw [if_pos h];simp only[Kh];rw[h];by_cases h2:t.tx=x
    ·simp[h2]
    ·simp[h2]
   ·rw [if_neg h];simp only[Kh];rw[ih];by_cases h2:a.tx=x
    ·subst h2;simp[Ne.symm h]
    ·simp[h2]
def va (e:E):∀(P:List E),P.Pairwise (fun a b=>a.lsn < b.lsn)->P.drop (P.findIdx (aa e)) = P.filter (aa e)
 |[],_=>rfl
 |a :: r,h=>by
   rw[Jt] at h;rw[KG,Jv];cases ha:aa e a
   ·simpa using va e r h.2
   ·have:r.filter (aa e) = r:=JE.2 fun b hb=>by
     have:=h.1 b hb;unfold aa at ha |-;simp at ha |-;omega
    simp[this]
def Cy (e:E):∀(P:List E),P.Pairwise (fun a b=>a.lsn < b.lsn)->P.any (aa e) = true->(P.getD (P.findIdx (aa e)) E0).lsn = e.ref->eX P (P.findIdx (aa e)) = P.filter fun y=>!decide (y.lsn = e.ref)
 |[],_,h,_=>by cases h
 |a :: r,h,hq,hl=>by
   rw[Jt] at h;rw[KG] at hl |-;rw[Jv];cases ha:aa e a
   ·rw [ha] at hl;have hq:r.any (aa e)=true:=by simpa [ha] using hq
    have hl:(r.getD (r.findIdx (aa e)) E0).lsn=e.ref:=by simpa using hl
    have:=Cy e r h.2 hq hl;unfold eX at this |-;have hne:a.lsn≠e.ref:=by unfold aa at ha;simp at ha;omega
    simp[hne];simpa using this
   ·rw [ha] at hl;have hl:a.lsn=e.ref:=by simpa using hl
    have:r.filter (fun y=>!decide (y.lsn=e.ref))=r:=JE.2 fun b hb=>by
     have:=h.1 b hb;simp;omega
    simp[eX,hl,this]
structure Inv(f:Int)(es:List E)(i:Nat)(A:Ck):Prop where
 pg:∀p,dm A.Pg p=if eZ es p i=0 then none else some (eZ es p i)
 un:∀n,n∈A.U ↔ cw es i n=true
 no:∀x,1<=x->gX A.T x=none->∀k,k<i->(es.getD k E0).tx≠x
 so:∀x t,1<=x->gX A.T x=some t->aI es x i≠0/\t.last=aI es x i/\t.ab=cx es x i/\t.en=exE es i (eu x)/\t.ea=exE es i (dH f x)/\t.P=aH es i x
def vb:∀{i:Nat},(∀k,k < i->(es.getD k E0).tx ≠ x)->aI es x i = 0/\cx es x i = false
 |0,_=>⟨rfl,rfl⟩
 |i + 1,h=>by
   rw[aI,cx,if_neg (h i vz),if_neg (h i vz)];exact vb fun k hk=>h k vz
def vc(h:∀k,k<i->(es.getD k E0).tx≠x):exE es i (eu x)=false/\exE es i (dH f x)=false/\aH es i x=[]:=by
 refine⟨exE_iff'.2 fun k hk=>?_,exE_iff'.2 fun k hk=>?_,?_⟩
 ·unfold eu;rw[decide_eq_false (h k hk)];rfl
 ·unfold dH;rw[decide_eq_false (h k hk)];rfl
 ·rw [List.eq_nil_iff_forall_not_mem];intro y hy;obtain⟨⟨k,hk,rfl⟩,_,h2,_⟩:=mem_penL.1 hy;exact h k hk h2
def Cz (W:Wf f es) (I:Inv f es i A) (e:E) (ht:1<=e.tx):
 ckB f A e=((if aI es e.tx i=0 then decide (e.ptx<f) else decide (e.ptx=aI es e.tx i)&&!exE es i (eu e.tx))&&((!ar e||pagedB f A.Pg e)&&gW f A.U e (if aI es e.tx i=0 then decide (0<e.ptx) else exE es i (dH f e.tx)) (cx es e.tx i) (aH es i e.tx))) /\
 ckS f A e=⟨setT A.T ⟨e.tx,e.lsn,if aI es e.tx i=0 then decide (0<e.ptx) else exE es i (dH f e.tx),nab e (cx es e.tx i),nen e (exE es i (eu e.tx)),dG f e (aH es i e.tx)⟩,if ar e=true then fE A.Pg e.c.pg e.lsn else A.Pg,iM A.U e⟩:=by
 unfold ckB ckS;have h0:e.tx≠0:=vz;rw[if_neg h0,if_neg h0];cases hT:gX A.T e.tx with
 |none =>
   have hn:=I.no e.tx ht hT;obtain⟨h1,h2⟩:=vb hn;obtain⟨h3,h4,h5⟩:=vc (f:=f) hn;rw[h1,h2,h3,h5];exact⟨rfl,rfl⟩
 |some t =>
   obtain⟨h0,h1,h2,h3,h4,h5⟩:=I.so e.tx t ht hT;simp only[h1,h2,h3,h4,h5,if_neg h0];exact⟨trivial,trivial⟩
def OX(W:Wf f es)(hi:i<=es.length)(x:Int):fI es i x 0 (-1) 0=!(aH es i x).isEmpty:=by
 unfold fI;rw[JN,exE_iff,Jy,List.isEmpty_eq_false_iff_exists_mem];constructor
 ·rintro ⟨k,hk,h⟩;unfold jz iN at h;simp only[Jf,decide_eq_true_eq,Jy] at h;exact⟨_,mem_penL.2 ⟨⟨k,hk,rfl⟩,h.1.1,h.1.2.1,h.2⟩⟩
 ·rintro ⟨y,hy⟩;obtain⟨⟨k,hk,rfl⟩,h1,h2,h3⟩:=mem_penL.1 hy;refine⟨k,hk,?_⟩;have:=(W.ok k vz).lsn;have:=W.f1;unfold jz iN;simp only[Jf,decide_eq_true_eq,Jy,JR];exact⟨⟨h1,h2,vz,.inl vj⟩,h3⟩
def OY(W:Wf f es)(hi:i<=es.length)(x pg sl ab:Int)(hs:0<=sl):fI es i x pg sl ab=true ↔ ∃y∈aH es i x,ab<y.lsn/\y.c.pg=pg/\y.c.sl=sl:=by
 unfold fI;rw[exE_iff];constructor
 ·rintro ⟨k,hk,h⟩;unfold jz iN at h;simp only[Jf,decide_eq_true_eq,Jy,JR] at h;refine⟨_,mem_penL.2 ⟨⟨k,hk,rfl⟩,h.1.1,h.1.2.1,h.2⟩,h.1.2.2.1,?_⟩;rcases h.1.2.2.2 with h|h
  ·omega
  ·exact h
 ·rintro ⟨y,hy,ha,hc⟩;obtain⟨⟨k,hk,rfl⟩,h1,h2,h3⟩:=mem_penL.1 hy;refine⟨k,hk,?_⟩;unfold jz iN;simp only[Jf,decide_eq_true_eq,Jy,JR];exact⟨⟨h1,h2,ha,.inr hc⟩,h3⟩
def OZ(I:Inv f es i A):mq f es i=pagedB f A.Pg (es.getD i E0):=by
 unfold mq pagedB;rw[I.pg];grind
def O0(W:Wf f es)(hi:i<es.length):
 txR f es i=((if aI es (es.getD i E0).tx i=0 then decide ((es.getD i E0).ptx<f) else decide ((es.getD i E0).ptx=aI es (es.getD i E0).tx i)&&!exE es i (eu (es.getD i E0).tx)) &&
  (if (es.getD i E0).kind=2 then true else bb (es.getD i E0) (if aI es (es.getD i E0).tx i=0 then decide (0<(es.getD i E0).ptx) else exE es i (dH f (es.getD i E0).tx)) (cx es (es.getD i E0).tx i) (aH es i (es.getD i E0).tx))):=by
 have hp:=OX W (KK hi) (es.getD i E0).tx;have hl:=u9 W (es.getD i E0).tx i vz;have hb:=(W.ok i hi).ptx;unfold txR rH bb;rw[hp];have f1:=W.f1;generalize aH es i (es.getD i E0).tx=P at *;rcases hl with⟨h1,hn⟩|⟨h1,_⟩
 ·obtain ⟨_,h2⟩:=vb hn;obtain⟨h3,h4,_⟩:=vc (f:=f) hn;rw[h1,h2,h3,h4];generalize es.getD i E0=e at *;by_cases hk2:e.kind=2
  ·by_cases hf:e.ptx<f<;>by_cases h0:e.ptx=0<;>simp[hk2,hf,h0]<;>omega
  ·by_cases hf:e.ptx<f<;>by_cases h0:e.ptx=0<;>by_cases hk5:e.kind=5<;>simp[hk2,hf,h0,hk5]<;>omega
 ·have h0:aI es (es.getD i E0).tx i ≠ 0:=vz;generalize aI es (es.getD i E0).tx i=la at *;generalize exE es i (eu (es.getD i E0).tx)=en at *;generalize exE es i (dH f (es.getD i E0).tx)=ea at *;generalize cx es (es.getD i E0).tx i=ab at *;generalize es.getD i E0=e at *;by_cases hk2:e.kind=2
  ·by_cases hp:e.ptx=la<;>cases en<;>simp[hk2,h0,hp]
  ·by_cases hp:e.ptx=la<;>by_cases hk5:e.kind=5<;>cases en<;>cases ab<;>cases ea<;>simp[hk2,h0,hp,hk5]
def O1(x y:Ch):eqC x y=eqC y x:=by
 unfold eqC;grind
def kO(W:Wf f es)(hi:i<=es.length)(h:y∈aH es i x):∃k,k<i/\es.getD k E0=y/\y.lsn=f+k:=by
 obtain⟨⟨k,hk,rfl⟩,_⟩:=mem_penL.1 h;exact⟨k,hk,rfl,(W.ok k vz).lsn⟩
def O2(W:Wf f es)(hi:i<=es.length)(h:y∈aH es i x)(h':y'∈aH es i x')(e:y.lsn=y'.lsn):y=y':=by
 obtain⟨k,_,rfl,h1⟩:=kO W hi h;obtain⟨k',_,rfl,h2⟩:=kO W hi h';grind
def ve{P:List E}{e:E}(hs:P.Pairwise fun a b=>a.lsn<b.lsn)(ha:P.any (aa e)=true) :
 P.getD (P.findIdx (aa e)) E0∈P/\aa e (P.getD (P.findIdx (aa e)) E0)=true/\P.filter (aa e)=P.getD (P.findIdx (aa e)) E0::P.drop (P.findIdx (aa e)+1)/\∀y∈P.drop (P.findIdx (aa e)+1),(P.getD (P.findIdx (aa e)) E0).lsn<y.lsn:=by
 have hj:P.findIdx (aa e)<P.length:=Jo (by simpa using ha);have hd:=va e P hs
 have hc:P.drop (P.findIdx (aa e))=P.getD (P.findIdx (aa e)) E0::P.drop (P.findIdx (aa e)+1):=by
  rw[Qd P _ hj,List.drop_eq_getElem_cons hj]
 rw[hc] at hd;have hm:P.getD (P.findIdx (aa e)) E0∈P.filter (aa e):=by rw[<-hd];exact J5
 have hsf:=hs.filter (aa e);rw[<-hd,Jt] at hsf;grind
def O3 (W:Wf f es) (hi:i < es.length) (I:Inv f es i A) (e:E) (he:es.getD i E0 = e) (hk:e.kind = 2):eY f A.U (aH es i e.tx) e = mr f es i:=by
 have hok:=W.ok i hi;have hil:=KK hi;have hs:=u7 W hil e.tx;rw[he] at hok;have hsl:=OY W hil e.tx e.c.pg e.c.sl e.ref (hok.sl hk)
 have hun:decide (e.ref∈A.U)=cw es i e.ref:=by
  rw[JN,decide_eq_true_eq];exact I.un _
 unfold eY mr;rw[he,hun];by_cases hf:e.ref<f
 ·rw [if_pos hf]
  have hall:∀y∈aH es i e.tx,aa e y=true:=fun y hy=>by
   obtain⟨k,_,_,h⟩:=kO W hil hy;unfold aa;exact decide_eq_true vz
  have hpen:fI es i e.tx e.c.pg e.c.sl e.ref=(aH es i e.tx).any (cV e):=by
   rw[JN,hsl,Ks];constructor
   ·rintro ⟨y,hy,_,h1,h2⟩;exact⟨y,hy,by unfold cV;rw[decide_eq_true h1,decide_eq_true h2];rfl⟩
   ·rintro ⟨y,hy,h⟩;unfold cV at h;simp only[Jf,decide_eq_true_eq] at h;obtain⟨k,_,_,hl⟩:=kO W hil hy;exact⟨y,hy,vz,h.1,h.2⟩
  rw[hpen,KD];congr 1;have hfe:¬f<=e.ref:=vz;rw[if_neg hfe,va e _ hs,JE.2 hall];split
  ·rfl
  ·rename_i hno;cases hP:aH es i e.tx with
   |nil=>simp[hf]
   |cons a r =>
     exfalso;rw[hP] at hno hall;exact hno (by rw[List.any_cons,hall a vv];rfl)
 ·rw [if_neg hf];have hfe:f<=e.ref:=vz;have href:=hok.ref;have hlsn:=hok.lsn;have hk0:(e.ref-f).toNat<i:=vz;have hx:=(W.ok (e.ref-f).toNat vz).lsn;obtain⟨x,hxe⟩:∃x,es.getD (e.ref-f).toNat E0=x:=⟨_,rfl⟩
  rw[hxe] at hx |-;have hx:x.lsn=e.ref:=vz;by_cases hm:x∈aH es i e.tx
  ·obtain ⟨_,h1,h2,h3⟩:=mem_penL.1 hm;have ha:(aH es i e.tx).any (aa e)=true:=Ks.2 ⟨x,hm,by unfold aa;exact decide_eq_true vz⟩;obtain⟨a1,a2,a3,a4⟩:=ve hs ha;rw[if_pos ha,if_pos hfe];generalize (aH es i e.tx).findIdx (aa e)=j at *
   have hy:(aH es i e.tx).getD j E0=x:=by
    have hxf:x∈(aH es i e.tx).filter (aa e):=Ji.2 ⟨hm,by unfold aa;exact decide_eq_true vz⟩;rw[a3] at hxf;rcases Jj.1 hxf with h|h
    ·exact h.symm
    ·have:=a4 x h;unfold aa at a2;have:=of_decide_eq_true a2;omega
   rw[hy] at a2 a3 a4 |-
   have hpen:fI es i e.tx e.c.pg e.c.sl e.ref=((aH es i e.tx).drop (j+1)).any (cV e):=by
    rw[JN,hsl,Ks];constructor
    ·rintro ⟨y,hy,hl,h1,h2⟩;have hyf:y∈(aH es i e.tx).filter (aa e):=Ji.2 ⟨hy,by unfold aa;exact decide_eq_true vz⟩;rw[a3] at hyf;rcases Jj.1 hyf with h|h
     ·rw[h] at hl;omega
     ·exact⟨y,h,by unfold cV;rw[decide_eq_true h1,decide_eq_true h2];rfl⟩
    ·rintro ⟨y,hy,h⟩;unfold cV at h;simp only[Jf,decide_eq_true_eq] at h;have hl:=a4 y hy;exact⟨y,Kz hy,vz,h.1,h.2⟩
   rw[hpen,decide_eq_true h1,decide_eq_true h2,decide_eq_true hx,O1];cases eqC e.c x.c.inv<;>cases cw es i e.ref<;>simp
  ·have hL:(decide (x.kind = 1) && (decide (x.tx = e.tx) && (eqC e.c x.c.inv && (!cw es i e.ref && !fI es i e.tx e.c.pg e.c.sl e.ref)))) = false:=by
    rw[J6];intro h;simp only[Jf,decide_eq_true_eq,Jy] at h;exact hm (mem_penL.2 ⟨⟨_,hk0,hxe⟩,h.1,h.2.1,by rw[hx];exact h.2.2.2.1⟩)
   rw[hL,if_pos hfe];split
   ·rename_i ha;obtain⟨a1,a2,a3,a4⟩:=ve hs ha
    have hne:((aH es i e.tx).getD ((aH es i e.tx).findIdx (aa e)) E0).lsn≠e.ref:=fun h=>by
     obtain⟨k,hk,hke,hkl⟩:=kO W hil a1;have:k=(e.ref-f).toNat:=vz;rw[this,hxe] at hke;exact hm (hke▸a1)
    rw[decide_eq_false hne];simp
   ·rw [decide_eq_false hf];simp
def O4(W:Wf f es)(hi:i<es.length)(I:Inv f es i A):ckB f A (es.getD i E0)=mu f es i:=by
 have hok:=W.ok i hi;unfold mu;rcases hok.tx with⟨ht,hk⟩|⟨ht,hk⟩
 ·rw [(Cz W I _ ht).1,O0 W hi,OZ I,decide_eq_true (show 0 < (es.getD i E0).tx by omega)];unfold gW;by_cases hk2:(es.getD i E0).kind=2
  ·rw [if_pos hk2,if_pos hk2,O3 W hi I _ rfl hk2,decide_eq_true hk2];simp
  ·rw [if_neg hk2,if_neg hk2,decide_eq_false hk2];generalize bb _ _ _ _=b;generalize pagedB _ _ _=c;generalize (if aI es (es.getD i E0).tx i=0 then _ else _:Bool)=a;cases a<;>cases b<;>cases c<;>cases ar (es.getD i E0)<;>rfl
 ·have h1:ar (es.getD i E0) = false:=by
   unfold ar;rw[Kc];exact⟨beq_eq_false_iff_ne.2 hk.1,beq_eq_false_iff_ne.2 hk.2.1⟩
  rw[h1,decide_eq_false hk.2.1,decide_eq_false (show ¬0<(es.getD i E0).tx by omega),ckB,if_pos ht];rfl
def CA(W:Wf f es)(hi:i<es.length)(x:Int):aH es (i+1) x=(aH es i x).filter (fun y=>!undp y.lsn (es.getD i E0))++(if (es.getD i E0).kind=1/\(es.getD i E0).tx=x then [es.getD i E0] else []):=by
 unfold aH;rw[OR,Kj,List.filter_filter];congr 1
 ·refine KH fun y _=>?_;rw[rK];cases decide (y.kind=1)<;>cases decide (y.tx=x)<;>cases cw es i y.lsn<;>cases undp y.lsn (es.getD i E0)<;>rfl
 ·have hf:=OU W hi;have hl:=(W.ok i hi).lsn;rw[<-hl] at hf;rw[Jv,JU,rK,hf];generalize es.getD i E0=e at *;by_cases h1:e.kind=1
  ·by_cases h2:e.tx = x
   ·simp[h1,h2,undp]
   ·simp[h1,h2]
  ·simp[h1]
def CB(W:Wf f es)(hi:i<es.length)(x:Int)(h1:¬((es.getD i E0).kind=1/\(es.getD i E0).tx=x))(h2:(es.getD i E0).kind=2->∀y∈aH es i x,y.lsn≠(es.getD i E0).ref):aH es (i+1) x=aH es i x:=by
 rw[CA W hi,if_neg h1,Jk];refine JE.2 fun y hy=>?_;unfold undp;grind
def CC(h:eY f U P e=true)(hf:f<=e.ref):P.any (aa e)=true/\(P.getD (P.findIdx (aa e)) E0).lsn=e.ref:=by
 unfold eY at h;grind
def O5{es:List E}(h:(es.getD i E0).kind≠1/\(es.getD i E0).kind≠2):ar (es.getD i E0)=false:=by
 unfold ar;grind
def rL(W:Wf f es)(hi:i<es.length)(I:Inv f es i A)(h:ckB f A (es.getD i E0)=true):Inv f es (i+1) (ckS f A (es.getD i E0)):=by
 have hok:=W.ok i hi;have hil:=KK hi
 have other:∀x,(es.getD i E0).tx≠x->aI es x (i+1)=aI es x i/\cx es x (i+1)=cx es x i/\exE es (i+1) (eu x)=exE es i (eu x)/\exE es (i+1) (dH f x)=exE es i (dH f x):=fun x hx=>by
  refine⟨by rw[aI,if_neg hx],by rw[cx,if_neg hx],?_,?_⟩
  ·rw[mn];unfold eu;rw[decide_eq_false hx,Ko,Kd]
  ·rw[mn];unfold dH;rw[decide_eq_false hx,Ko,Kd]
 rcases hok.tx with⟨ht,hk⟩|⟨ht,hk⟩
 ·obtain ⟨eB,eS⟩:=Cz W I _ ht;rw[eB] at h;rw[eS];have hlast:=u9 W (es.getD i E0).tx i hil
  have hund:(es.getD i E0).kind=2->eY f A.U (aH es i (es.getD i E0).tx) (es.getD i E0)=true:=fun hk2=>by
   unfold gW at h;rw[if_pos hk2] at h;simp only[Jf] at h;exact h.2.2
  have hptx:if aI es (es.getD i E0).tx i=0 then (es.getD i E0).ptx<f else (es.getD i E0).ptx=aI es (es.getD i E0).tx i:=by
   have:=h;simp only[Jf] at this;have:=this.1;split at this
   ·rename_i h0;rw[if_pos h0];exact of_decide_eq_true this
   ·rename_i h0;rw[if_neg h0];simp only[Jf,decide_eq_true_eq] at this;exact this.1
  refine⟨fun p=>?_,fun n=>?_,fun x hx hn k hk'=>?_,fun x t hx hsome=>?_⟩
  ·dsimp only;rw[eZ];by_cases hc:ar (es.getD i E0)=true
   ·rw [if_pos hc,OV,I.pg];by_cases hp:(es.getD i E0).c.pg=p
    ·rw[if_pos hp,if_pos (show ar (es.getD i E0)=true/\(es.getD i E0).c.pg=p from ⟨hc,hp⟩),if_neg (show ¬(es.getD i E0).lsn=0 by have:=hok.lsn;have:=W.f1;omega)]
    ·rw[if_neg hp,if_neg (show ¬(ar (es.getD i E0)=true/\(es.getD i E0).c.pg=p) from fun h=>hp h.2)]
   ·rw[if_neg hc,if_neg (show ¬(ar (es.getD i E0)=true/\(es.getD i E0).c.pg=p) from fun h=>hc h.1),I.pg]
  ·dsimp only;rw[rK];unfold iM undp;by_cases hk2:(es.getD i E0).kind=2
   ·rw [if_pos hk2,OW,I.un,decide_eq_true hk2,Ke,JR,decide_eq_true_eq];constructor
    ·rintro (h|h)
     ·exact .inl h
     ·exact .inr h.symm
    ·rintro (h|h)
     ·exact .inl h
     ·exact .inr h.symm
   ·rw[if_neg hk2,I.un,decide_eq_false hk2,Ko,Kd]
  ·dsimp only at hn;rw[Cx] at hn;dsimp only at hn;split at hn
   ·cases hn
   ·rename_i hne;by_cases hki:k=i
    ·rw[hki];exact hne
    ·exact I.no x hx hn k vz
  ·dsimp only at hsome;rw[Cx] at hsome;dsimp only at hsome;by_cases hxe:(es.getD i E0).tx=x
   ·rw [if_pos hxe] at hsome;obtain rfl:=KW.inj hsome;subst hxe;dsimp only;rw[aI,if_pos rfl,cx,if_pos rfl,mn,mn,CA W hi];refine⟨by have:=hok.lsn;have:=W.f1;omega,rfl,rfl,?_,?_,?_⟩
    ·unfold nen eu;rw[decide_eq_true rfl,Ke,Bool.or_assoc]
    ·unfold dH;rw[decide_eq_true rfl,Ke];rcases hlast with⟨h0,hno⟩|⟨h0,_⟩
     ·rw [if_pos h0] at hptx |-;have:=(vc (f:=f) hno).2.1;unfold dH at this;rw[this,decide_eq_true hptx,Bool.false_or,KT]
     ·have hne:aI es (es.getD i E0).tx i ≠ 0:=by have:=W.f1;omega
      rw[if_neg hne] at hptx |-;rw[decide_eq_false (show ¬(es.getD i E0).ptx<f by omega),Km,Kd]
    ·unfold dG;by_cases hk2:(es.getD i E0).kind=2
     ·rw [if_pos hk2,if_neg vz,Jk];unfold gj;by_cases hf:f<=(es.getD i E0).ref
      ·obtain ⟨a1,a2⟩:=CC (hund hk2) hf;rw[if_pos hf,Cy _ _ (u7 W hil _) a1 a2];refine KH fun y _=>?_;unfold undp;rw[decide_eq_true hk2,Ke];congr 1;rw[decide_eq_decide];exact eq_comm
      ·rw [if_neg hf];refine(JE.2 fun y hy=>?_).symm;obtain⟨k,_,_,hl⟩:=kO W hil hy;unfold undp;rw[decide_eq_false (show ¬(es.getD i E0).ref=y.lsn by omega),Km];rfl
     ·rw [if_neg hk2]
      have hid:(aH es i (es.getD i E0).tx).filter (fun y=>!undp y.lsn (es.getD i E0))=aH es i (es.getD i E0).tx:=JE.2 fun y _=>by
       unfold undp;rw[decide_eq_false hk2];rfl
      rw[hid];unfold nP;by_cases hk1:(es.getD i E0).kind=1
      ·rw[if_pos hk1,if_pos ⟨hk1,rfl⟩]
      ·rw[if_neg hk1,if_neg (fun h=>hk1 h.1),Jk]
   ·rw [if_neg hxe] at hsome;obtain⟨o1,o2,o3,o4⟩:=other x hxe;rw[o1,o2,o3,o4,CB W hi x (fun h=>hxe h.2) ?_]
    ·exact I.so x t hx hsome
    ·intro hk2 y hy hl;by_cases hf:f<=(es.getD i E0).ref
     ·obtain ⟨a1,a2⟩:=CC (hund hk2) hf;obtain⟨b1,_⟩:=ve (u7 W hil _) a1;have:=O2 W hil hy b1 (by rw[hl,a2]);rw[<-this] at b1;have h1:=(mem_penL.1 hy).2.2.1;have h2:=(mem_penL.1 b1).2.2.1;exact hxe (h2.symm.trans h1)
     ·obtain ⟨k,_,_,hl'⟩:=kO W hil hy;omega
 ·have hc:=O5 ⟨hk.1,hk.2.1⟩;rw[ckS,if_pos ht];refine⟨fun p=>?_,fun n=>?_,fun x hx hn k hk'=>?_,fun x t hx hsome=>?_⟩
  ·rw[eZ,if_neg (show ¬(ar (es.getD i E0)=true/\(es.getD i E0).c.pg=p) from fun h=>by rw[hc] at h;cases h.1),I.pg]
  ·rw [rK,I.un];unfold undp;rw[decide_eq_false hk.2.1,Ko,Kd]
  ·by_cases hki:k = i
   ·rw[hki];omega
   ·exact I.no x hx hn k vz
  ·obtain ⟨o1,o2,o3,o4⟩:=other x vz;rw[o1,o2,o3,o4,CB W hi x (fun h=>hk.1 h.1) (fun h=>absurd h hk.2.1)];exact I.so x t hx hsome
def O6(f:Int)(es:List E):Inv f es 0 Ck0:=⟨fun p=>rfl,fun n=>by simp[Ck0,cw,exE],fun x hx hn k hk=>by omega,fun x t hx h=>by cases h⟩
def CD (W:Wf f es):∀i,i<=es.length->ckL f Ck0 (es.take i) = (JD i).all (mu f es)/\(ckL f Ck0 (es.take i) = true->Inv f es i (ckA f Ck0 (es.take i)))
 |0,_=>⟨rfl,fun _=>O6 f es⟩
 |i + 1,hi=>by
   obtain⟨h1,h2⟩:=CD W i vz;rw[rF hi,rE,u6,Ky,KO,h1];cases hb:(JD i).all (mu f es)
   ·simp
   ·have I:=h2 (h1.trans hb);have he:=O4 W hi I;simp only[ckL,ckA,List.all_cons,List.all_nil,KT,Ke];exact⟨he,fun h=>rL W hi I h⟩
def O7(x:Lg):dq x=rJ x:=by
 unfold dq rJ;by_cases h:lgB x=true
 ·rw [if_pos h,if_pos h];have:=(CD (Wf.of h) x.es.length (Jp _)).1;rw[JG] at this;rw[this]
 ·rw[if_neg h,if_neg h]
def ovp(lsn tx:Int)(e:E):Bool:=(decide (e.kind=2)&&decide (e.ref=lsn))||(decide (e.tx=tx)&&(decide (e.kind=3)||decide (e.kind=5)))
def ovB(es:List E)(k n:Nat):Bool:=(JD n).any fun j=>decide (k<j)&&ovp (es.getD k E0).lsn (es.getD k E0).tx (es.getD j E0)
def CE(es:List E)(n:Nat)(c:Int×Int)(k:Nat):Bool:=decide ((es.getD k E0).kind=1)&&(decide (((es.getD k E0).c.pg,(es.getD k E0).c.sl)=c)&&!ovB es k n)
def O8(es:List E)(n:Nat)(c:Int×Int):Nat:=(JD n).countP (CE es n c)
abbrev Own:=List ((Int×Int)×(Int×Int))
def au(o:Own)(c:Int×Int):Int×Int:=match o with
 |[]=>(0,0)
 |(a,x)::r=>if a=c then x else au r c
def bO(o:Own)(c:Int×Int)(v:Int×Int):Own:=match o with
 |[]=>[(c,v)]
 |(a,x)::r=>if a=c then (a,v)::r else (a,x)::bO r c v
def rM (o:Own) (c:Int × Int) (v:Int × Int) (d:Int × Int):au (bO o c v) d = if c = d then v else au o d:=by
 induction o with
 |nil=>simp[bO,au]
 |cons p r ih =>
   obtain⟨a,x⟩:=p;rw[bO];by_cases h:a=c
   ·rw [if_pos h,au];subst h;by_cases h2:a=d
    ·rw[if_pos h2,if_pos h2]
    ·rw[if_neg h2,if_neg h2,au,if_neg h2]
   ·rw [if_neg h,au,ih];by_cases h2:a=d
    ·rw[if_pos h2,if_neg (fun e=>h (h2.trans e.symm)),au,if_pos h2]
    ·rw [if_neg h2];conv=>rhs;rw[au,if_neg h2]
def O9 (o:Own) (q:Int->Bool) (hn:(o.map (·.1)).Nodup) (c:Int × Int):au (o.filter fun p=>!q p.2.1) c = if q (au o c).1 = true then (0,0) else au o c:=by
 induction o with
 |nil=>show(0,0)=if q 0=true then (0,0) else (0,0);split<;>rfl
 |cons p r ih =>
   obtain⟨a,x⟩:=p;simp only[JB,JV] at hn;have ih:=ih hn.2;by_cases h2:a=c
   ·have hr:∀o':Own,(∀y ∈ o',y.1 ≠ c)->au o' c = (0,0):=fun o' ho=>by
     induction o' with
     |nil=>rfl
     |cons z s ihs =>
       obtain⟨b,y⟩:=z;rw[au,if_neg (ho (b,y) (J5)),ihs fun y hy=>ho y (Jm _ hy)]
    rw[Jv,au,if_pos h2];cases hq:q x.1
    ·simp only [hq,KQ,if_true,J3,if_false];rw[au,if_pos h2]
    ·simp only [hq,KU,J3,if_false,if_true];refine hr _ fun y hy e=>?_;have:=(Ji.1 hy).1;exact hn.1 (by rw[h2,<-e];exact JT.2 ⟨y,this,rfl⟩)
   ·rw [Jv,au,if_neg h2];cases hq:q x.1
    ·simp only [hq,KQ,if_true];rw[au,if_neg h2];exact ih
    ·simp only [hq,KU,J3,if_false];exact ih
def vf (o:Own) (c:Int × Int) (v:Int × Int) (hn:(o.map (·.1)).Nodup):((bO o c v).map (·.1)).Nodup/\∀y ∈ (bO o c v).map (·.1),y = c\/y ∈ o.map (·.1):=by
 induction o with
 |nil=>simp[bO]
 |cons p r ih =>
   obtain⟨a,x⟩:=p;simp only[JB,JV] at hn;obtain⟨i1,i2⟩:=ih hn.2;rw[bO];by_cases h:a=c
   ·rw [if_pos h];simp only[JB,JV];exact⟨hn,fun y hy=>.inr hy⟩
   ·rw [if_neg h];simp only[JB,JV];refine⟨⟨fun hm=>?_,i1⟩,fun y hy=>?_⟩
    ·rcases i2 a hm with e|e
     ·exact h e
     ·exact hn.1 e
    ·rcases Jj.1 hy with rfl|hy
     ·exact .inr (J5)
     ·exact(i2 y hy).imp id fun e=>Jm _ e
def mw(o:Own)(e:E):Option Own :=
 if e.kind=1 then (if 0<(au o (e.c.pg,e.c.sl)).2/\(au o (e.c.pg,e.c.sl)).1≠e.tx then none
  else some (bO o (e.c.pg,e.c.sl) (if (au o (e.c.pg,e.c.sl)).1≠e.tx then (e.tx,1) else (e.tx,(au o (e.c.pg,e.c.sl)).2+1))))
 else if e.kind=2 then some (bO o (e.c.pg,e.c.sl) ((au o (e.c.pg,e.c.sl)).1,(au o (e.c.pg,e.c.sl)).2-1))
 else if e.kind=3\/e.kind=5 then some (o.filter fun p=>!decide (p.2.1=e.tx))
 else some o
def dI(es:List E):Nat->Option Own
 |0=>some []
 |n+1=>(dI es n).bind fun o=>mw o (es.getD n E0)
structure OwI(es:List E)(n:Nat)(o:Own):Prop where
 nd:(o.map (·.1)).Nodup
 cnt:∀c,(au o c).2=O8 es n c
 tx:∀c k,k<n->CE es n c k=true->(es.getD k E0).tx=(au o c).1
section
attribute [local go_sem] Ce.d Ch.d E.d bD cL cM cN cP cQ cR fB fC fD Jq Lg.c
theorem umS:prog.underlying 80=some (.map 3 82):=vw
theorem zS:kL prog 82=some (.agg #[]):=vw
def cz(x:Lg):Bool:=lgB x&&decide (x.f=1)
def vh(x:Lg)(hx:x.es.length<=9223372036854775807):VCalls prog 17 [.agg x.c] [] (Ret (.bool (cz x))):=by
 refine dd Tryz.func17 ?_;have hv:=xV x hx;unfold Lg.c at hv;refine rn F ?_;cases hlg:lgB x
 ·rw [hlg] at hv;refine rn F ?_
  repeat' (first|with_reducible exact⟨⟩|refine vp F (hv) ?_)
  all_goals (unfold cz;rw[hlg];simp;try (rw[JN];simp))
 ·rw [hlg] at hv;refine rn F ?_
  repeat' (first|with_reducible exact⟨⟩|refine vp F (hv) ?_)
  all_goals (unfold cz;rw[hlg];simp;try (rw[JN];simp))
def ez(x:Lg)(at_:Int):Bool:=decide (0<=at_)&&decide (at_<=x.es.length)
def CF(x:Lg)(at_:Int):VCalls prog 18 [.agg x.c,.int .i64 at_] [] (Ret (.bool (ez x at_))):=by
 refine dd Tryz.func18 ?_;refine rn F ?_
 repeat' (first|with_reducible exact⟨⟩|(refine sG F ?_ ?_<;>intro hZ))
 all_goals (unfold ez;simp;try omega)
def dt(es:List E):Nat->List (Int×DV)
 |0=>[]
 |i+1=>if (es.getD i E0).kind=3 then aR (dt es i) (es.getD i E0).tx (.agg []) else dt es i
def my{g:MapsD}{b:Nat}{L L':oD}(hb:∀p∈g,p.1≠b):(((b,L)::g).map fun p=>if p.1=b then (b,L') else p)=(b,L')::g:=by
 rw[JB,if_pos rfl];congr 1;conv=>rhs;rw[<-List.map_id g]
 exact List.map_congr_left fun p hp=>by rw[if_neg (hb p hp)];rfl
structure CmS(n:Nat) where
 i:Nat
 hi:i<=n
 ys:Qb
def CG(hp:Qb)(g:MapsD)(x:Lg)(k:Nat)(hk:k<=x.es.length)(hx:x.es.length<=4096) :
 VCallsG prog 19 [.agg x.c,.int .i64 k] hp g (fun r h' g'=>∃b,r=.pv (.lit (.map (some b)))/\(∀p∈g,p.1≠b)/\(∃ys,h'=hp++ys)/\g'=(b,ag kI (dt x.es k))::g):=by
 refine fF (fn:=Tryz.f19) Tryz.func19 rfl vw (by simp[Tryz.f19]) (fun c=>?_);refine VWpG.first (Qa c) ?_
 (unfold Tryz.f19;refine rn trivial ?_)
 refine VWpG.seq ?_;refine VWpG.cut1 (Qa c) 0 [] ?_;refine rn trivial ?_;refine QR rfl (fun c=>by simp) (oE rfl rfl fun b hb=>?_);refine rn trivial ?_;refine VWpG.seq ?_;refine VWpG.seq ?_;have hk':(k:Int)<=x.es.length:=vz;refine VWpG.plain (Qa c) ?_;refine rn @hk' ?_;refine VWpG.block ?_;have hkl:((x.es.take k).length:Int)=k:=by rw[Ju];omega
 have hfin:∀i,i<k->(x.es.take k).getD i E0=x.es.getD i E0:=fun i hi=>by
  rw[Je,Je,J2,if_pos hi]
 refine VWpG.loop (fun s:CmS k=>⟨27,hp.length,[(14,.int .i64 s.i),(13,.int .i64 k),(12,.pv (.sl (fz encE (x.es.take k)))),(5,.pv (.lit (.map (some b))))],hp++s.ys⟩) (fun s=>(b,ag kI (dt x.es s.i))::g) (fun s=>k-s.i) ⟨0,JO _,[⟨26,true,[.int .i64 x.f,.pv (.sl (fz encE x.es)),.int .i64 x.d]⟩]⟩ ?_ ?_
 ·refine WeakG.slots rfl rfl ?_;intro p hp;simp only[Jj,JH,or_false] at hp;rcases hp with rfl|rfl|rfl|rfl
  ·exact .inl rfl
  ·exact .inl (congrArg (DV.int .i64) vz)
  ·exact .inl rfl
  ·exact .inl rfl
 rintro⟨i,hi,ys⟩;dsimp only;refine VWpG.first (Qa c) ?_
 refine rn trivial ?_;refine VWpG.seq ?_;by_cases hlt:i<k
 ·have hg:=jX (x.es.take k) i (by rw [Ju];omega);rw[hfin i hlt] at hg;have hd:decide ((i:Int)<k)=true:=vg;refine VWpG.cond (t:=true) (by rw[<-hd];rfl) (fun _=>?_) (fun h=>by cases h);refine VWpG.plain (Qa c) ?_;refine rn trivial ?_;refine VWpG.seq ?_;refine VWpG.block ?_;have hu:dt x.es (i+1)=if (x.es.getD i E0).kind=3 then aR (dt x.es i) (x.es.getD i E0).tx (.agg []) else dt x.es i:=rfl
  generalize x.es.getD i E0=e at *;refine VWpG.first (Qa c) ?_
  refine rn @hg ?_;refine VWpG.first (Qa c) ?_
  refine rn trivial ?_;have hmem:(b,ag kI (dt x.es i))∈((b,ag kI (dt x.es i))::g:MapsD):=J5;by_cases hk3:e.kind=3
  ·rw [if_pos hk3] at hu;refine VWpG.cond (t:=true) (by rw[hk3];rfl) (fun hZ=>?_) (fun hZ=>?_);rotate_left
   ·cases hZ
   refine VWpG.cut1 (Qa c) 4 [] ?_;refine rn trivial ?_;refine QR rfl (fun c=>by simp) (fG (L:=dt x.es i) (k:=e.tx) rfl rfl umS bU rfl hmem (bV rfl) ?_);rw[my hb];refine rn trivial ?_;refine VWpG.plain (Qa c) ?_;refine rn trivial ?_;refine⟨⟨i+1,hlt,ys++[⟨58,true,e.d⟩]⟩,vu,?_⟩;dsimp only;rw[hu];refine WeakG.slots rfl (Jc _ _ _) ?_;intro p hp;simp only[Jj,JH,or_false] at hp;rcases hp with rfl|rfl|rfl|rfl<;>exact .inl rfl
  ·rw [if_neg hk3] at hu;have hd2:decide (e.kind=3)=false:=decide_eq_false hk3;refine VWpG.cond (t:=false) (by rw[<-hd2];rfl) (fun hZ=>?_) (fun hZ=>?_)
   ·cases hZ
   refine VWpG.plain (Qa c) ?_;refine rn trivial ?_;refine VWpG.plain (Qa c) ?_;refine rn trivial ?_;refine⟨⟨i+1,hlt,ys++[⟨58,true,e.d⟩]⟩,vu,?_⟩;dsimp only;rw[hu];refine WeakG.slots rfl (Jc _ _ _) ?_;intro p hp;simp only[Jj,JH,or_false] at hp;rcases hp with rfl|rfl|rfl|rfl<;>exact .inl rfl
 ·have hd:decide ((i:Int) < k) = false:=vg;have hie:i=k:=vz;subst hie;refine VWpG.cond (t:=false) (by rw[<-hd];rfl) (fun h=>by cases h) (fun _=>?_);refine VWpG.plain (Qa c) ?_;refine rn trivial ?_;refine VWpG.plain (Qa c) ?_;refine rn trivial ?_;exact⟨b,rfl,hb,⟨_,rfl⟩,rfl⟩
end
end Go.Proofs.YtalibkpienbliaaGreat
