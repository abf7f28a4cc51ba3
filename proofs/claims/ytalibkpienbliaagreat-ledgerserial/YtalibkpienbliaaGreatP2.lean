/-
  Contracts of functions and plain laws. No condition.
-/
import Derived.Test.YtalibkpienbliaaGreatP1
import Derived.Test.YtalibkpienbliaaGreatV3
set_option linter.unusedSimpArgs false
set_option linter.unusedVariables false
set_option linter.defProp false
set_option maxRecDepth 100000
set_option maxHeartbeats 8000000
set_option autoImplicit true
set_option relaxedAutoImplicit true
open And renaming intro->Ja
open Bool renaming and_eq_true->Jb,true_and->JP
open Int renaming toNat_natCast->Jh,le_refl->JO
open List renaming getD_eq_getElem?_getD->Jd,replicate->Je,length_append->Jf,getElem_mem->Ji,take_succ_eq_append_getElem->Jj,take_of_length_le->Jk,all_eq_true->Jl,mem_iff_getElem->Jm,length_cons->Jn,mem_range->Jo,range->Jp,length_take->Jq,length_nil->Jr,getElem?_append_right->Js,mem_append_left->Jt,length_set->Ju,mem_append->Jv,mem_singleton->Jw,map_nil->Jx,length_replicate->Jy,map_cons->Jz,getElem?_append_left->JA,getElem?_eq_getElem->JB,foldl_append->JC,any_eq_true->JE,set_getElem_self->JG,length_filter_le->JH,getElem?_eq_none->JI,set_append_right->JJ,mem_of_mem_take->JK,countP_pos_iff->JL,getElem_of_mem->JM,find?_eq_none->JQ,getElem?_map->JS,map_set->JT,findIdx_map->JW,getElem_map->JX,length_drop->JY,countP_set->J0,mem_filter->J1,prefix_rfl->J2,append_nil->J3,nodup_nil->J4,mem_cons->J5,any_map->J7,mem_map->J8,length->J9
open Nat renaming le_trans->Jc,zero_le->Jg,add_sub_cancel_left->JD,lt_or_ge->JF,le_refl->JN,sub_add_cancel->JR,sub_self->JU,zero_add->JV,le_add_right->JZ,add_assoc->J6
namespace Go.Proofs.YtalibkpienbliaaGreat
open Go.V Go
open Tryz (prog)
section
attribute [local go_sem] ba
def cn(f:Fm)(x:Pg):Fm:=⟨x,true,if f.dirty=true then f.rc else x.lsn,true⟩
def aO(p:Pl)(x:Pg):Pl×Int:=
 if plB p=false then (Pl0,15) else if Q5 x≠0 then (Pl0,Q5 x) else if idF p.fs x.id<0 then (Pl0,18)
 else if x.lsn<=(p.fs.getD (idF p.fs x.id).toNat Fm0).pg.lsn then (Pl0,8)
 else (⟨p.size,p.fs.set (idF p.fs x.id).toNat (cn (p.fs.getD (idF p.fs x.id).toNat Fm0) x),p.hand⟩,0)
def G3(p:Pl)(hl:p.fs.length<=100000)(x:Pg):VCalls prog 216 [.agg p.d,.agg x.d] [] (Ret (.tup [.agg (aO p x).1.d,.int .i64 (aO p x).2])):=by
 refine dk Tryz.func216 ?_;have c1:=gJ p vz;have c2:=lH x;have c3:=j9 p vz x.id;have c4:=qm p vz
 have e:aO p x=if plB p=false then (Pl0,15) else if Q5 x≠0 then (Pl0,Q5 x) else if idF p.fs x.id<0 then (Pl0,18)
  else if x.lsn<=(p.fs.getD (idF p.fs x.id).toNat Fm0).pg.lsn then (Pl0,8)
  else (⟨p.size,p.fs.set (idF p.fs x.id).toNat (cn (p.fs.getD (idF p.fs x.id).toNat Fm0) x),p.hand⟩,0):=rfl
 have hi:=gK p.fs x.id;generalize aO p x=r at *;generalize plB p=b at *;generalize Q5 x=k at *;rcases hi with h|⟨i,hi,h,_⟩
 ·rw [h] at c3 e;refine rn F ?_
  repeat' (first|with_reducible exact⟨⟩|(refine sB F ?_ ?_<;>intro hZ)|refine vp F (c1) ?_|refine vp F (c2) ?_|refine vp F (c3) ?_)
  all_goals first|(first|(rw[e];simp(disch:=first|assumption|omega|exact rfl|exact nf vq|exact nt vq|decide|fail) only[if_pos,if_neg];first|done|rfl)|(rw[e];simp(disch:=first|assumption|omega|exact rfl|exact nf vq|exact nt vq|decide|(simp_all;done)|fail) only[if_pos,if_neg];first|done|rfl))|skip
 ·rw [h] at c3 e;rw[Jh] at e;have hg:=dQ p.fs i hi;have e2:∀f:Fm,f.dirty=true->cn f x=⟨x,true,f.rc,true⟩:=fun f h=>by unfold cn;rw[if_pos h]
  have e3:∀f:Fm,¬f.dirty=true->cn f x=⟨x,true,x.lsn,true⟩:=fun f h=>by unfold cn;rw[if_neg h]
  have c4:=fun f=>c4 i hi f;generalize p.fs.getD i Fm0=f at *;have F:=@hg;refine rn F ?_
  repeat' (first|with_reducible exact⟨⟩|(refine sB F ?_ ?_<;>intro hZ)|refine vp F (c1) ?_|refine vp F (c2) ?_|refine vp F (c3) ?_|refine vp F (c4 ⟨_,_,_,_⟩) ?_)
  all_goals first|(first|(rw[e];simp(disch:=first|assumption|omega|exact rfl|exact nf vq|exact nt vq|decide|fail) only[if_pos,if_neg];first|done|rfl)|(rw[e];simp(disch:=first|assumption|omega|exact rfl|exact nf vq|exact nt vq|decide|(simp_all;done)|fail) only[if_pos,if_neg];first|done|rfl))|(first|(rw[e,e2 f vq];simp(disch:=first|assumption|omega|exact rfl|exact nf vq|exact nt vq|decide|fail) only[if_pos,if_neg];first|done|rfl)|(rw[e,e2 f vq];simp(disch:=first|assumption|omega|exact rfl|exact nf vq|exact nt vq|decide|(simp_all;done)|fail) only[if_pos,if_neg];first|done|rfl))|(first|(rw[e,e3 f (by simp_all)];simp(disch:=first|assumption|omega|exact rfl|exact nf vq|exact nt vq|decide|fail) only[if_pos,if_neg];first|done|rfl)|(rw[e,e3 f (by simp_all)];simp(disch:=first|assumption|omega|exact rfl|exact nf vq|exact nt vq|decide|(simp_all;done)|fail) only[if_pos,if_neg];first|done|rfl))|skip
def iA(f:Fm)(n:Int):Fm:=if f.pg.lsn=n then ⟨f.pg,false,0,f.used⟩ else if f.rc<=n then ⟨f.pg,f.dirty,n+1,f.used⟩ else f
def bR(p:Pl)(a n:Int):Pl×Int:=
 if plB p=false then (Pl0,15) else if idF p.fs a<0 then (Pl0,18)
 else if (p.fs.getD (idF p.fs a).toNat Fm0).pg.lsn<n then (Pl0,9)
 else if (p.fs.getD (idF p.fs a).toNat Fm0).dirty=false then (p,0)
 else (⟨p.size,p.fs.set (idF p.fs a).toNat (iA (p.fs.getD (idF p.fs a).toNat Fm0) n),p.hand⟩,0)
def G4(p:Pl)(hl:p.fs.length<=100000)(a n:Int)(hn:n<=1099511627776)(hn0:0<=n):VCalls prog 144 [.agg p.d,.int .i64 a,.int .i64 n] [] (Ret (.tup [.agg (bR p a n).1.d,.int .i64 (bR p a n).2])):=by
 refine dk Tryz.func144 ?_;have c1:=gJ p vz;have c3:=j9 p vz a;have c4:=qm p vz
 have e:bR p a n=if plB p=false then (Pl0,15) else if idF p.fs a<0 then (Pl0,18)
  else if (p.fs.getD (idF p.fs a).toNat Fm0).pg.lsn<n then (Pl0,9)
  else if (p.fs.getD (idF p.fs a).toNat Fm0).dirty=false then (p,0)
  else (⟨p.size,p.fs.set (idF p.fs a).toNat (iA (p.fs.getD (idF p.fs a).toNat Fm0) n),p.hand⟩,0):=rfl
 have hi:=gK p.fs a;generalize bR p a n=r at *;generalize plB p=b at *;rcases hi with h|⟨i,hi,h,_⟩
 ·rw [h] at c3 e;refine rn F ?_
  repeat' (first|with_reducible exact⟨⟩|(refine sB F ?_ ?_<;>intro hZ)|refine vp F (c1) ?_|refine vp F (c3) ?_)
  all_goals first|(first|(rw[e];simp(disch:=first|assumption|omega|exact rfl|exact nf vq|exact nt vq|decide|fail) only[if_pos,if_neg];first|done|rfl)|(rw[e];simp(disch:=first|assumption|omega|exact rfl|exact nf vq|exact nt vq|decide|(simp_all;done)|fail) only[if_pos,if_neg];first|done|rfl))|skip
 ·rw [h] at c3 e;rw[Jh] at e;have hg:=dQ p.fs i hi;have c4:=fun f=>c4 i hi f;generalize p.fs.getD i Fm0=f at *;obtain⟨pg,dirty,rc,used⟩:=f;have e1:pg.lsn=n->iA ⟨pg,dirty,rc,used⟩ n=⟨pg,false,0,used⟩:=fun h=>if_pos h;have e2:¬pg.lsn=n->rc<=n->iA ⟨pg,dirty,rc,used⟩ n=⟨pg,dirty,n+1,used⟩:=fun h h2=>by unfold iA;rw[if_neg h,if_pos h2]
  have e3:¬pg.lsn=n->¬rc<=n->iA ⟨pg,dirty,rc,used⟩ n=⟨pg,dirty,rc,used⟩:=fun h h2=>by unfold iA;rw[if_neg h,if_neg h2]
  cases dirty
  all_goals
   have F:=@hg;refine rn F ?_
   repeat' (first|with_reducible exact⟨⟩|(refine sB F ?_ ?_<;>intro hZ)|refine vp F (c1) ?_|refine vp F (c3) ?_|refine vp F (c4 ⟨_,_,_,_⟩) ?_)
  all_goals first|(first|(rw[e];simp(disch:=first|assumption|omega|exact rfl|exact nf vq|exact nt vq|decide|fail) only[if_pos,if_neg];first|done|rfl)|(rw[e];simp(disch:=first|assumption|omega|exact rfl|exact nf vq|exact nt vq|decide|(simp_all;done)|fail) only[if_pos,if_neg];first|done|rfl))|(first|(rw[e,e1 vz];simp(disch:=first|assumption|omega|exact rfl|exact nf vq|exact nt vq|decide|fail) only[if_pos,if_neg];first|done|rfl)|(rw[e,e1 vz];simp(disch:=first|assumption|omega|exact rfl|exact nf vq|exact nt vq|decide|(simp_all;done)|fail) only[if_pos,if_neg];first|done|rfl))|(first|(rw[e,e2 vz vz];simp(disch:=first|assumption|omega|exact rfl|exact nf vq|exact nt vq|decide|fail) only[if_pos,if_neg];first|done|rfl)|(rw[e,e2 vz vz];simp(disch:=first|assumption|omega|exact rfl|exact nf vq|exact nt vq|decide|(simp_all;done)|fail) only[if_pos,if_neg];first|done|rfl))|(first|(rw[e,e3 vz vz];simp(disch:=first|assumption|omega|exact rfl|exact nf vq|exact nt vq|decide|fail) only[if_pos,if_neg];first|done|rfl)|(rw[e,e3 vz vz];simp(disch:=first|assumption|omega|exact rfl|exact nf vq|exact nt vq|decide|(simp_all;done)|fail) only[if_pos,if_neg];first|done|rfl))|skip
def gM(n:Nat)(i h:Int):Int:=if (n:Int)<=(if i<h then h-1 else h) then 0 else (if i<h then h-1 else h)
def df(p:Pl)(a:Int):Pl×Int:=
 if plB p=false then (Pl0,15) else if idF p.fs a<0 then (Pl0,18)
 else if (p.fs.getD (idF p.fs a).toNat Fm0).dirty=true then (Pl0,23)
 else (⟨p.size,p.fs.take (idF p.fs a).toNat++p.fs.drop ((idF p.fs a).toNat+1),gM (p.fs.length-1) (idF p.fs a) p.hand⟩,0)
def G5(p:Pl)(hl:p.fs.length<=100000)(a:Int):VCalls prog 209 [.agg p.d,.int .i64 a] [] (Ret (.tup [.agg (df p a).1.d,.int .i64 (df p a).2])):=by
 refine dk Tryz.func209 ?_;have c1:=gJ p vz;have c3:=j9 p vz a
 have e:df p a=if plB p=false then (Pl0,15) else if idF p.fs a<0 then (Pl0,18)
  else if (p.fs.getD (idF p.fs a).toNat Fm0).dirty=true then (Pl0,23)
  else (⟨p.size,p.fs.take (idF p.fs a).toNat++p.fs.drop ((idF p.fs a).toNat+1),gM (p.fs.length-1) (idF p.fs a) p.hand⟩,0):=rfl
 have hi:=gK p.fs a;have hh:=@lI p;generalize df p a=r at *;generalize plB p=b at *;rcases hi with h|⟨i,hi,h,_⟩
 ·rw [h] at c3 e;refine rn F ?_
  repeat' (first|with_reducible exact⟨⟩|(refine sB F ?_ ?_<;>intro hZ)|refine vp F (c1) ?_|refine vp F (c3) ?_)
  all_goals first|(first|(rw[e];simp(disch:=first|assumption|omega|exact rfl|exact nf vq|exact nt vq|decide|fail) only[if_pos,if_neg];first|done|rfl)|(rw[e];simp(disch:=first|assumption|omega|exact rfl|exact nf vq|exact nt vq|decide|(simp_all;done)|fail) only[if_pos,if_neg];first|done|rfl))|skip
 ·rw [h] at c3 e;rw[Jh] at e;cases b
  ·(refine rn F ?_;try with_reducible exact⟨⟩)
   refine rn F ?_
   repeat' (first|with_reducible exact⟨⟩|refine vp F (c1) ?_)
   all_goals (first|(rw[e];simp(disch:=first|assumption|omega|exact rfl|exact nf vq|exact nt vq|decide|fail) only[if_pos,if_neg];first|done|rfl)|(rw[e];simp(disch:=first|assumption|omega|exact rfl|exact nf vq|exact nt vq|decide|(simp_all;done)|fail) only[if_pos,if_neg];first|done|rfl))
  have hh:=hh rfl;obtain⟨z,l,hn⟩:=p;dsimp only at hl e hi;simp only[Pl.hd] at hh;have hg:=dQ l i hi;have hb:(i+(l.length-(i+1)))*304<=140737488355328:=vz;have hb1:i*304<=140737488355328:=vz;have hmin:min i l.length=i:=vz;have e1:(i:Int)<hn->¬((l.length-1:Nat):Int)<=hn-1->gM (l.length-1) i hn=hn-1:=fun h h2=>by unfold gM;rw[if_pos h,if_neg h2]
  have e2:¬(i:Int)<hn->¬((l.length-1:Nat):Int)<=hn->gM (l.length-1) i hn=hn:=fun h h2=>by unfold gM;rw[if_neg h,if_neg h2]
  have e3:(i:Int)<hn->((l.length-1:Nat):Int)<=hn-1->gM (l.length-1) i hn=0:=fun h h2=>by unfold gM;rw[if_pos h,if_pos h2]
  have e4:¬(i:Int)<hn->((l.length-1:Nat):Int)<=hn->gM (l.length-1) i hn=0:=fun h h2=>by unfold gM;rw[if_neg h,if_pos h2]
  generalize l.getD i Fm0=f at *;have F:=(Ja @hg (Ja @hb (Ja @hb1 @hmin)))
  refine rn F ?_
  repeat' (first|with_reducible exact⟨⟩|(refine sB F ?_ ?_<;>intro hZ)|refine vp F (c1) ?_|refine vp F (c3) ?_|(refine Qf (id:=8) [0,1,2,3,5,6,7,8,9] [⟨[],[],4,[0,1,2,5,6,7,8,9],[]⟩,⟨[],[],10,[0,1,2,3,5,6,7,8],[11]⟩,⟨[],[],12,[],[]⟩] vw vw ?_;refine rn F ?_))
  all_goals first|(first|(rw[e];simp(disch:=first|assumption|omega|exact rfl|exact nf vq|exact nt vq|decide|fail) only[if_pos,if_neg];first|done|rfl)|(rw[e];simp(disch:=first|assumption|omega|exact rfl|exact nf vq|exact nt vq|decide|(simp_all;done)|fail) only[if_pos,if_neg];first|done|rfl))|(first|(rw[e,e1 vz vz];simp(disch:=first|assumption|omega|exact rfl|exact nf vq|exact nt vq|decide|fail) only[if_pos,if_neg];first|done|rfl)|(rw[e,e1 vz vz];simp(disch:=first|assumption|omega|exact rfl|exact nf vq|exact nt vq|decide|(simp_all;done)|fail) only[if_pos,if_neg];first|done|rfl))|(first|(rw[e,e2 vz vz];simp(disch:=first|assumption|omega|exact rfl|exact nf vq|exact nt vq|decide|fail) only[if_pos,if_neg];first|done|rfl)|(rw[e,e2 vz vz];simp(disch:=first|assumption|omega|exact rfl|exact nf vq|exact nt vq|decide|(simp_all;done)|fail) only[if_pos,if_neg];first|done|rfl))|(first|(rw[e,e3 vz vz];simp(disch:=first|assumption|omega|exact rfl|exact nf vq|exact nt vq|decide|fail) only[if_pos,if_neg];first|done|rfl)|(rw[e,e3 vz vz];simp(disch:=first|assumption|omega|exact rfl|exact nf vq|exact nt vq|decide|(simp_all;done)|fail) only[if_pos,if_neg];first|done|rfl))|(first|(rw[e,e4 vz vz];simp(disch:=first|assumption|omega|exact rfl|exact nf vq|exact nt vq|decide|fail) only[if_pos,if_neg];first|done|rfl)|(rw[e,e4 vz vz];simp(disch:=first|assumption|omega|exact rfl|exact nf vq|exact nt vq|decide|(simp_all;done)|fail) only[if_pos,if_neg];first|done|rfl))|skip
end
section
attribute [local go_sem] ba
def Fm.clr(f:Fm):Fm:=⟨f.pg,f.dirty,f.rc,false⟩
def SameF(l m:List Fm):Prop:=m.map Fm.clr=l.map Fm.clr
def qp(l:List Fm)(i:Nat):(l.map Fm.clr).getD i Fm0=(l.getD i Fm0).clr:=by
 rw[Jd,Jd,JS];cases l[i]?<;>rfl
def yG(l:List Fm)(i:Nat):frC (l.map Fm.clr) i=frC l i:=by
 have h:fR (l.map Fm.clr) i=fR l i:=by funext k;simp only[fR,qp];rfl
 simp only[frC,h,qp];rfl
def SameF.len(h:SameF l m):m.length=l.length:=by have:=congrArg J9 h;simpa using this
theorem SameF.refl(l:List Fm):SameF l l:=rfl
def SameF.trans(h:SameF a b)(g:SameF b c):SameF a c:=Eq.trans (b:=b.map Fm.clr) g h
def SameF.at_(h:SameF l m)(i:Nat):(m.getD i Fm0).clr=(l.getD i Fm0).clr:=by
 rw[<-qp,<-qp,show m.map Fm.clr=l.map Fm.clr from h]
def SameF.frC{l m:List Fm}(h:SameF l m):frC m=frC l:=by
 funext i;rw[<-yG m,<-yG l,show m.map Fm.clr=l.map Fm.clr from h]
def SameF.plB{p q:Pl}(h:SameF p.fs q.fs)(hs:q.size=p.size)(hh:0<=q.hand/\q.hand<=max 0 ((p.fs.length:Int)-1))(hp:plB p=true):plB q=true:=by
 have h1:=lI hp;simp only[Pl.hd] at h1;have hl:=h.len;unfold Proofs.YtalibkpienbliaaGreat.plB at hp |-;rw[h.frC,hl,decide_eq_true (by simp only[Pl.hd];omega)];grind
def yH(l:List Fm)(a:Int):idF (l.map Fm.clr) a=idF l a:=by
 unfold idF bA;rw[J7,JW];rfl
def SameF.idF{l m:List Fm}(h:SameF l m)(a:Int):idF m a=idF l a:=by
 rw[<-yH m,<-yH l,show m.map Fm.clr=l.map Fm.clr from h]
def SameF.set (l:List Fm) (i:Nat) (b:Bool):SameF l (l.set i ⟨(l.getD i Fm0).pg,(l.getD i Fm0).dirty,(l.getD i Fm0).rc,b⟩):=by
 unfold SameF;rw[JT];rcases JF i l.length with h|h
 ·have:(⟨(l.getD i Fm0).pg,(l.getD i Fm0).dirty,(l.getD i Fm0).rc,b⟩:Fm).clr = (l.map Fm.clr)[i]'(by simpa using h):=by
   rw[Qd l i h,JX];rfl
  rw[this,JG]
 ·rw[List.set_eq_of_length_le (by simpa using h)]
def qq(l:List Fm):Nat:=l.countP (·.used)
def G6(l:List Fm)(i:Nat)(h:i<l.length)(hu:(l.getD i Fm0).used=true):qq (l.set i ⟨(l.getD i Fm0).pg,(l.getD i Fm0).dirty,(l.getD i Fm0).rc,false⟩)<qq l:=by
 unfold qq;grind
structure Vic(p:Pl) where
 q:Pl
 ok:plB q=true
 sm:SameF p.fs q.fs
 sz:q.size=p.size
 ne:0<q.fs.length
def yI(p:Pl)(a:Pl×Int×Int):Prop:=(a.2.2=0->plB p=true/\plB a.1=true/\SameF p.fs a.1.fs/\a.1.size=p.size/\∃i,i<a.1.fs.length/\a.2.1=(a.1.fs.getD i Fm0).pg.id)/\(plB p=true->0<p.fs.length->a.2.2=0)/\a.1.fs.length<=p.fs.length
def yJ(a:Pl×Int×Int):DV:=.tup [.agg a.1.d,.int .i64 a.2.1,.int .i64 a.2.2]
def G7(p:Pl)(hl:p.fs.length<=100000):VCalls prog 208 [.agg p.d] [] (QM yJ (yI p)):=by
 refine dk Tryz.func208 ?_;have c1:=gJ p vz;cases hb:plB p
 ·rw [hb] at c1;refine rn F ?_
  repeat' (first|with_reducible exact⟨⟩|refine vp F (c1) ?_)
  all_goals exact⟨rfl,rfl,(Pl0,0,15),rfl,by simp[yI,hb,Pl0]⟩
 ·rw [hb] at c1;refine rn F ?_
  repeat' (first|with_reducible exact⟨⟩|(refine sB F ?_ ?_<;>intro hZ)|refine vp F (c1) ?_)
  ·exact⟨rfl,rfl,(Pl0,0,18),rfl,fun h=>absurd h vj,fun _ h=>by omega,Jg _⟩
  refine Qj (fun s:Vic p=>⟨51,0,[(2,.ptr 1 0),(1,.ptr 0 0)],[⟨29,true,s.q.d⟩,⟨29,true,[.int .i64 0,.pv (.slc []),.int .i64 0]⟩]⟩) (fun s=>qq s.q.fs) ⟨p,hb,SameF.refl _,rfl,vz⟩ (gc [0,1]) ?_;intro s;obtain⟨q,ok,sm,sz,ne⟩:=s;obtain⟨qz,l,hn⟩:=q;dsimp only at ok sm sz ne |-;have hh:=lI ok;have hlen:=sm.len;simp only[Pl.hd] at hh;obtain⟨i,rfl⟩:∃i:Nat,hn=i:=⟨hn.toNat,vz⟩
  have hi:i<l.length:=vz;have hg:=dQ l i hi;have c2:=fun f=>qm ⟨qz,l,i⟩ vu i hi f;have hst:=SameF.set l i false;have hus:=G6 l i hi;have hmod:((i:Int)+1).tmod (l.length:Int)=((i+1) % l.length:Nat):=Int.ofNat_tmod (i+1) l.length;have hml:(i+1) % l.length<l.length:=Nat.mod_lt _ ne;have hle:∀f,(l.set i f).length=l.length:=fun f=>Ju;generalize hf:l.getD i Fm0=f at *;have F:=(Ja @hg @hle)
  refine rn F ?_
  repeat' (first|with_reducible exact⟨⟩|(refine sB F ?_ ?_<;>intro hZ)|refine vp F (c2 ⟨_,_,_,_⟩) ?_|(refine Qf (id:=10) [0,1,2,3,4,5,6,7,8] [⟨[],[],9,[1,2,3,4,5,6,7,8],[]⟩,⟨[],[],10,[],[]⟩,⟨[],[],11,[],[]⟩] vw vw ?_;refine rn F ?_))
  ·rw [hmod];refine⟨⟨⟨qz,l.set i ⟨f.pg,f.dirty,f.rc,false⟩,((i+1) % l.length:Nat)⟩,(sm.trans hst).plB sz ?_ hb,sm.trans hst,sz,?_⟩,hus vq,(gc [0,1])⟩
   ·dsimp only at hlen |-;omega
   ·rw[hle];exact ne
  ·exact⟨rfl,rfl,(⟨qz,l,i⟩,f.pg.id,0),rfl,fun _=>⟨hb,ok,sm,sz,i,hi,by rw[hf]⟩,fun _ _=>rfl,by dsimp only at hlen |-;omega⟩
end
def nQ(x:Lg)(h1 : -1099511627776<=x.f/\x.f<=1099511627776)(h2:x.es.length<=1000000):VCalls prog 28 [.agg x.c] [] (Ret (.int .i64 x.end_)):=by
 refine dd Tryz.func28 ?_;unfold Lg.end_;(refine rn F ?_;try with_reducible exact⟨⟩)
def yK{x:Lg}(h:lgB x=true):x.end_<=1099511627776:=by
 have hd:=bz h;unfold Lg.hd at hd;unfold Lg.end_;unfold lgB at h;simp only[Jb,Jl] at h;by_cases h0:x.es.length=0
 ·omega
 ·have:=h.2 (x.es.length - 1) (Jo.2 vz);unfold lgC at this;simp only[Jb,decide_eq_true_eq] at this;obtain⟨h3,h4⟩:=this;generalize x.es.getD (x.es.length-1) E0=e at *;unfold E.okB at h4;simp only[Jb,decide_eq_true_eq] at h4;omega
def fS(x:Lg)(hx:x.es.length<=9223372036854775807):VCalls prog 26 [.agg x.c] [] (Ret (.bool (lgB x))):=by
 refine dd Tryz.func26 ?_;obtain⟨f,es,d⟩:=x;dsimp only at hx;have c1:=nQ ⟨f,es,d⟩;unfold Lg.end_ at c1;dsimp only at c1;have hB:lgB ⟨f,es,d⟩=(decide (Lg.hd ⟨f,es,d⟩)&&(Jp es.length).all (lgC ⟨f,es,d⟩)):=rfl;have hH:Lg.hd ⟨f,es,d⟩=(1<=f/\f<=1099511627776/\es.length<=4096/\f-1<=d/\d<=f+es.length-1):=rfl;have hB':Lg.hd ⟨f,es,d⟩->lgB ⟨f,es,d⟩=(Jp es.length).all (lgC ⟨f,es,d⟩):=fun h=>by rw[hB,decide_eq_true h,JP]
 have no:¬Lg.hd ⟨f,es,d⟩->lgB ⟨f,es,d⟩=false:=fun h=>by rw[hB,decide_eq_false h];rfl
 have hlc:∀i,lgC ⟨f,es,d⟩ i=(decide ((es.getD i E0).lsn=f+i)&&(es.getD i E0).okB):=fun _=>rfl;generalize lgB ⟨f,es,d⟩=b at *;generalize lgC ⟨f,es,d⟩=lc at *;refine rn F ?_
 repeat' (first|with_reducible exact⟨⟩|(refine sG F ?_ ?_<;>intro hZ)|(refine sB F ?_ ?_<;>intro hZ)|refine vp F (c1 vz vz) ?_|(refine Qf (id:=1) [0,1,2,3,4,5,6,7,8,9,10,11,12,13,14,15,16,17,18,19,20,21,22,23,24,25] [⟨[],[],26,[0,1,2,3,4,5,6,7,8,9,10,11,12,13,14,15,16,17,18,19,20,21,23,24],[27,28]⟩] vw vw ?_;refine rn F ?_))
 all_goals first|(rw[no (by rw[hH];omega)])|skip
 refine Qj (fun s:Okay es.length lc=>⟨60,0,[(3,.int .i64 s.i),(1,.ptr 0 0)],[⟨26,true,Lg.c ⟨f,es,d⟩⟩]⟩) (fun s=>es.length-s.i) (Okay.start _ _) (gc [0]) ?_;intro s;have hsi:=s.hi;have hg:=fun h:s.i<es.length=>jf es s.i h;have c2:=jY (es.getD s.i E0);have e:=hlc s.i;generalize (es.getD s.i E0).okB=ok at *;have F:=@hg;refine rn F ?_
 repeat' (first|with_reducible exact⟨⟩|(refine sG F ?_ ?_<;>intro hZ)|(refine sB F ?_ ?_<;>intro hZ)|refine vp F (c2) ?_|(refine Qf (id:=6) [0,1,2,3,4,5,6,7,8,9,10,11,12,13,14,15,16] [⟨[],[],17,[0,1,2,3,4,5,6,7,8,9,10,12,13,14,15],[18,19]⟩] vw vw ?_;refine rn F ?_))
 all_goals first|(exact congrArg DV.bool (s.no vz (hB' (by rw[hH];omega)) (by rw[e];first|(rw[decide_eq_false vz];rfl)|simp_all)).symm)|(exact congrArg DV.bool (s.yes vz (hB' (by rw[hH];omega))).symm)|(exact⟨s.next vz (by rw[e];simp_all),s.dec vz,(gc [0])⟩)|skip
def eR(x:Lg):Int:=if lgB x=true then x.end_ else 0
def qt(x:Lg)(hx:x.es.length<=9223372036854775807):VCalls prog 60 [.agg x.c] [] (Ret (.int .i64 (eR x))):=by
 refine dd Tryz.func60 ?_;have c1:=fS x hx;have c2:=nQ x;have hh:=@bz x;simp only[Lg.hd] at hh;unfold eR;generalize lgB x=b at *;cases b
 ·(refine rn F ?_;try with_reducible exact⟨⟩)
  refine rn F ?_
  repeat' (first|with_reducible exact⟨⟩|refine vp F (c1) ?_)
  all_goals rfl
 ·replace hh:=hh rfl;refine rn F ?_
  repeat' (first|with_reducible exact⟨⟩|refine vp F (c1) ?_|refine vp F (c2 vz vz) ?_)
  all_goals rfl
def G8(x:Lg)(hx:x.es.length<=9223372036854775807)(e:E):VCalls prog 150 [.agg x.c,.agg e.d] [] (Ret (tp (a8 x e))):=by
 refine dk Tryz.func150 ?_;have c1:=fS x hx;have c2:=nQ x;have c3:=jY { e with lsn:=x.end_+1 };have hh:=@bz x;have he:=@yK x;simp only[Lg.hd] at hh
 have e0:a8 x e=if lgB x=false then (Lg0,0,26) else if x.es.length=4096\/1099511627776<x.end_+1 then (Lg0,0,21)
  else if ({ e with lsn:=x.end_+1 }:E).okB=false then (Lg0,0,12) else (⟨x.f,x.es++[{ e with lsn:=x.end_+1 }],x.d⟩,x.end_+1,0):=rfl
 unfold tp;generalize a8 x e=r at *;generalize lgB x=b at *;obtain⟨lsn,kind,tx,ptx,ppg,ref,c,blob⟩:=e;dsimp only at c3 e0 |-;cases b
 ·(refine rn F ?_;try with_reducible exact⟨⟩)
  refine rn F ?_
  repeat' (first|with_reducible exact⟨⟩|refine vp F (c1) ?_)
  all_goals (first|(rw[e0];simp(disch:=first|assumption|omega|exact rfl|exact nf vq|exact nt vq|decide|fail) only[if_pos,if_neg];first|done|rfl)|(rw[e0];simp(disch:=first|assumption|omega|exact rfl|exact nf vq|exact nt vq|decide|(simp_all;done)|fail) only[if_pos,if_neg];first|done|rfl))
 ·replace hh:=hh rfl;replace he:=he rfl;have hdef:x.end_=x.f+x.es.length-1:=rfl;have hl:=cR x.es ⟨x.end_+1,kind,tx,ptx,ppg,ref,c,blob⟩;dsimp only at hl;have hb:(x.es.length+1)*128<=140737488355328:=vz;generalize (⟨x.end_+1,kind,tx,ptx,ppg,ref,c,blob⟩:E).okB=ok at *;generalize x.end_=en at *;have F:=(Ja @hb @hl)
  refine rn F ?_
  repeat' (first|with_reducible exact⟨⟩|(refine sG F ?_ ?_<;>intro hZ)|(refine sB F ?_ ?_<;>intro hZ)|refine vp F (c1) ?_|refine vp F (c2 vz vz) ?_|refine vp F (c3) ?_|(refine Qf (id:=8) [0,1,3] [⟨[4],[],2,[0,3],[]⟩,⟨[4],[4],5,[0,1,3],[6]⟩,⟨[],[],7,[],[]⟩] vw vw ?_;refine rn F ?_)|(refine Qf (id:=9) [0,1,2] [⟨[],[],3,[1,2],[]⟩,⟨[],[],4,[],[]⟩,⟨[],[],5,[],[]⟩] vw vw ?_;refine rn F ?_))
  all_goals first|(first|(rw[e0];simp(disch:=first|assumption|omega|exact rfl|exact nf vq|exact nt vq|decide|fail) only[if_pos,if_neg];first|done|rfl)|(rw[e0];simp(disch:=first|assumption|omega|exact rfl|exact nf vq|exact nt vq|decide|(simp_all;done)|fail) only[if_pos,if_neg];first|done|rfl))|skip
def tT(x:Lg)(hx:x.es.length<=9223372036854775807)(n:Int):VCalls prog 59 [.agg x.c,.int .i64 n] [] (Ret (lgD (QY x n))):=by
 refine dk Tryz.func59 ?_;have c1:=fS x hx;have c2:=nQ x;have hh:=@bz x;simp only[Lg.hd] at hh;have e0:QY x n=if lgB x=false then (Lg0,26) else if x.end_<n then (Lg0,14) else (⟨x.f,x.es,if n > x.d then n else x.d⟩,0):=rfl
 unfold lgD;generalize QY x n=r at *;generalize lgB x=b at *;cases b
 ·(refine rn F ?_;try with_reducible exact⟨⟩)
  refine rn F ?_
  repeat' (first|with_reducible exact⟨⟩|refine vp F (c1) ?_)
  all_goals (first|(rw[e0];simp(disch:=first|assumption|omega|exact rfl|exact nf vq|exact nt vq|decide|fail) only[if_pos,if_neg];first|done|rfl)|(rw[e0];simp(disch:=first|assumption|omega|exact rfl|exact nf vq|exact nt vq|decide|(simp_all;done)|fail) only[if_pos,if_neg];first|done|rfl))
 ·replace hh:=hh rfl;refine rn F ?_
  repeat' (first|with_reducible exact⟨⟩|(refine sB F ?_ ?_<;>intro hZ)|refine vp F (c1) ?_|refine vp F (c2 vz vz) ?_)
  all_goals first|(first|(rw[e0];simp(disch:=first|assumption|omega|exact rfl|exact nf vq|exact nt vq|decide|fail) only[if_pos,if_neg];first|done|rfl)|(rw[e0];simp(disch:=first|assumption|omega|exact rfl|exact nf vq|exact nt vq|decide|(simp_all;done)|fail) only[if_pos,if_neg];first|done|rfl))|skip
def ah(x:Lg)(n:Int):E×Int:=if lgB x=false then (E0,26) else if n<x.f\/x.end_<n then (E0,14) else (x.es.getD (n-x.f).toNat E0,0)
def lJ(x:Lg)(hx:x.es.length<=9223372036854775807)(n:Int):VCalls prog 13 [.agg x.c,.int .i64 n] [] (Ret (.tup [.agg (ah x n).1.d,.int .i64 (ah x n).2])):=by
 refine dk Tryz.func13 ?_;have c1:=fS x hx;have c2:=nQ x;have hh:=@bz x;simp only[Lg.hd] at hh;have e0:ah x n=if lgB x=false then (E0,26) else if n<x.f\/x.end_<n then (E0,14) else (x.es.getD (n-x.f).toNat E0,0):=rfl
 generalize ah x n=r at *;generalize lgB x=b at *;cases b
 ·(refine rn F ?_;try with_reducible exact⟨⟩)
  refine rn F ?_
  repeat' (first|with_reducible exact⟨⟩|refine vp F (c1) ?_)
  all_goals (first|(rw[e0];simp(disch:=first|assumption|omega|exact rfl|exact nf vq|exact nt vq|decide|fail) only[if_pos,if_neg];first|done|rfl)|(rw[e0];simp(disch:=first|assumption|omega|exact rfl|exact nf vq|exact nt vq|decide|(simp_all;done)|fail) only[if_pos,if_neg];first|done|rfl))
 ·replace hh:=hh rfl;have hdef:x.end_=x.f+x.es.length-1:=rfl;generalize x.end_=en at *;have hg:=fun h:(n-x.f).toNat<x.es.length=>jf x.es (n-x.f).toNat h;have F:=@hg;refine rn F ?_
  repeat' (first|with_reducible exact⟨⟩|(refine sG F ?_ ?_<;>intro hZ)|(refine sB F ?_ ?_<;>intro hZ)|refine vp F (c1) ?_|refine vp F (c2 vz vz) ?_)
  all_goals first|(first|(rw[e0];simp(disch:=first|assumption|omega|exact rfl|exact nf vq|exact nt vq|decide|fail) only[if_pos,if_neg];first|done|rfl)|(rw[e0];simp(disch:=first|assumption|omega|exact rfl|exact nf vq|exact nt vq|decide|(simp_all;done)|fail) only[if_pos,if_neg];first|done|rfl))|skip
def eT(n:Int):Bool:=decide (0<=n)&&decide (n<=1099511627776)
def tU(n:Int):VCalls prog 207 [.int .i64 n] [] (Ret (.bool (eT n))):=by
 refine dd Tryz.func207 ?_;refine rn F ?_
 repeat' (first|with_reducible exact⟨⟩|(refine sG F ?_ ?_<;>intro hZ))
 all_goals (first|rfl|(congr 3;rw[Bool.eq_iff_iff];(try simp only[eT,decide_eq_true_eq,Jb,Bool.or_eq_true,Bool.not_eq_true',Bool.not_eq_false',decide_eq_false_iff_not,beq_iff_eq,bne_iff_ne,ne_eq,Bool.false_eq_true,Bool.true_eq_false,iff_true,true_iff,iff_false,false_iff]);first|done|omega|grind))
def ke(l:List Rw)(i:Nat):Bool:=eT (l.getD i Rw0).lsn&&eT (l.getD i Rw0).im&&eT (l.getD i Rw0).at_&&!(decide ((l.getD i Rw0).im=0)&&!decide ((l.getD i Rw0).at_=0))
def ixB(l:List Rw):Bool:=decide (1<=l.length)&&decide (l.length<=64)&&(Jp l.length).all (ke l)
def yL(h:ixB l=true):1<=l.length/\l.length<=64:=by
 unfold ixB at h;simp only[Jb,decide_eq_true_eq] at h;exact h.1
def lK(l:List Rw)(hl:l.length<=1000000):VCalls prog 159 [.agg [.pv (.sl (fz ay l))]] [] (Ret (.bool (ixB l))):=by
 refine dd Tryz.func159 ?_;have hB:ixB l=(decide (1<=l.length)&&decide (l.length<=64)&&(Jp l.length).all (ke l)):=rfl;have hB':1<=l.length->l.length<=64->ixB l=(Jp l.length).all (ke l):=fun h h2=>by rw[hB,decide_eq_true h,decide_eq_true h2,JP,JP]
 have no:¬(1<=l.length/\l.length<=64)->ixB l=false:=fun h=>by
  rw[hB];by_cases h1:1<=l.length
  ·rw[decide_eq_false (show ¬l.length<=64 from fun h2=>h ⟨h1,h2⟩)];simp
  ·rw[decide_eq_false h1];rfl
 generalize ixB l=b at *;refine rn F ?_
 repeat' (first|with_reducible exact⟨⟩|(refine sG F ?_ ?_<;>intro hZ)|(refine sB F ?_ ?_<;>intro hZ))
 all_goals first|(rw[no vz])|skip
 refine Qj (fun s:Okay l.length (ke l)=>⟨53,0,[(3,.int .i64 s.i),(1,.ptr 0 0)],[⟨36,true,[.pv (.sl (fz ay l))]⟩]⟩) (fun s=>l.length-s.i) (Okay.start _ _) (gc [0]) ?_;intro s;have hsi:=s.hi;have hg:=fun h:s.i<l.length=>nL l s.i h;have e:ke l s.i=(eT (l.getD s.i Rw0).lsn&&eT (l.getD s.i Rw0).im&&eT (l.getD s.i Rw0).at_&&!(decide ((l.getD s.i Rw0).im=0)&&!decide ((l.getD s.i Rw0).at_=0))):=rfl;have c1:=tU (l.getD s.i Rw0).lsn;have c2:=tU (l.getD s.i Rw0).im;have c3:=tU (l.getD s.i Rw0).at_;generalize eT (l.getD s.i Rw0).lsn=b1 at *;generalize eT (l.getD s.i Rw0).im=b2 at *;generalize eT (l.getD s.i Rw0).at_=b3 at *;have F:=@hg;refine rn F ?_
 repeat' (first|with_reducible exact⟨⟩|(refine sG F ?_ ?_<;>intro hZ)|(refine sB F ?_ ?_<;>intro hZ)|refine vp F (c1) ?_|refine vp F (c2) ?_|refine vp F (c3) ?_)
 all_goals first|(exact congrArg DV.bool (s.no vz (hB' vz vz) (by rw[e];simp_all)).symm)|(exact congrArg DV.bool (s.yes vz (hB' vz vz)).symm)|(exact⟨s.next vz (by rw[e];simp_all),s.dec vz,(gc [0])⟩)|skip
def G9(l:List Rw)(i:Nat)(r:Rw)(hi:i<l.length):(cells ay l).take (i*3)++[.pv (.lit (.int .i64 r.lsn)),.pv (.lit (.int .i64 r.im)),.pv (.lit (.int .i64 r.at_))]++(cells ay l).drop (i*3+3)=cells ay (l.set i r):=tA ay l i r hi
def Ha(l:List Rw)(hl:l.length<=1000000)(i:Nat)(hi:i<l.length)(r:Rw):VCalls prog 195 [.agg [.pv (.sl (fz ay l))],.int .i64 i,.agg r.d] [] (Ret (.agg [.pv (.sl (fz ay (l.set i r)))])):=by
 refine dd Tryz.func195 ?_;have hb:i*3+3<=l.length*3:=vz;have hse:=G9 l i r hi;have hle:(l.set i r).length=l.length:=Ju;refine rn F ?_;have F:=(Ja @hb (Ja @hse @hle))
 (refine rn F ?_;try with_reducible exact⟨⟩)
def nR{e:E}(h:e.okB=true)(hk:e.kind=1\/e.kind=2\/e.kind=7):0<=e.c.pg/\e.c.pg<64:=by
 unfold E.okB at h;simp only[Jb] at h;have h2:=h.2;unfold E.kindB Ch.okB Ch.ix at h2;grind
def aZ(l:List Rw)(e:E):List Rw×Int:=
 if ixB l=false then ([],28) else if e.okB=false then ([],12) else if e.kind≠7 then (l,0) else if (l.length:Int)<=e.c.pg then ([],1)
 else (l.set e.c.pg.toNat ⟨if e.ref > (l.getD e.c.pg.toNat Rw0).lsn then e.ref else (l.getD e.c.pg.toNat Rw0).lsn,(l.getD e.c.pg.toNat Rw0).im,(l.getD e.c.pg.toNat Rw0).at_⟩,0)
def yM(l:List Rw)(hl:l.length<=1000000)(e:E):VCalls prog 152 [.agg [.pv (.sl (fz ay l))],.agg e.d] [] (Ret (.tup [.agg [.pv (.sl (fz ay (aZ l e).1))],.int .i64 (aZ l e).2])):=by
 refine dk Tryz.func152 ?_;have c1:=lK l hl;have c2:=jY e;have c3:=fun i hi=>Ha l hl i hi;have hp:=@nR e;have hp1:=hp
 have e0:aZ l e=if ixB l=false then ([],28) else if e.okB=false then ([],12) else if e.kind≠7 then (l,0) else if (l.length:Int)<=e.c.pg then ([],1)
  else (l.set e.c.pg.toNat ⟨if e.ref > (l.getD e.c.pg.toNat Rw0).lsn then e.ref else (l.getD e.c.pg.toNat Rw0).lsn,(l.getD e.c.pg.toNat Rw0).im,(l.getD e.c.pg.toNat Rw0).at_⟩,0):=rfl
 generalize aZ l e=r at *;generalize ixB l=b at *;cases hok:e.okB
 ·rw [hok] at c2 e0;refine rn F ?_
  repeat' (first|with_reducible exact⟨⟩|(refine sB F ?_ ?_<;>intro hZ)|refine vp F (c1) ?_|refine vp F (c2) ?_)
  all_goals first|(first|(rw[e0];simp(disch:=first|assumption|omega|exact rfl|exact nf vq|exact nt vq|decide|fail) only[if_pos,if_neg];first|done|rfl)|(rw[e0];simp(disch:=first|assumption|omega|exact rfl|exact nf vq|exact nt vq|decide|(simp_all;done)|fail) only[if_pos,if_neg];first|done|rfl))|skip
 rw[hok] at c2 e0;by_cases hk:e.kind=7
 ·obtain ⟨i,hi⟩:∃i:Nat,e.c.pg = i:=⟨e.c.pg.toNat,by have:=hp hok (.inr (.inr hk));omega⟩
  rw[hi,Jh] at e0;have hg:=fun h:i<l.length=>nL l i h;generalize l.getD i Rw0=w at *;have F:=(Ja @hi (Ja @hg @hk))
  refine rn F ?_
  repeat' (first|with_reducible exact⟨⟩|(refine sB F ?_ ?_<;>intro hZ)|refine vp F (c1) ?_|refine vl F (c2) ?_|refine vp F (c3 i vz ⟨_,_,_⟩) ?_)
  all_goals first|(first|(rw[e0];simp(disch:=first|assumption|omega|exact rfl|exact nf vq|exact nt vq|decide|fail) only[if_pos,if_neg];first|done|rfl)|(rw[e0];simp(disch:=first|assumption|omega|exact rfl|exact nf vq|exact nt vq|decide|(simp_all;done)|fail) only[if_pos,if_neg];first|done|rfl))|skip
 ·(refine rn F ?_;try with_reducible exact⟨⟩)
  have F:=@hk;refine rn F ?_
  repeat' (first|with_reducible exact⟨⟩|(refine sB F ?_ ?_<;>intro hZ)|refine vp F (c1) ?_|refine vp F (c2) ?_)
  all_goals first|(first|(rw[e0];simp(disch:=first|assumption|omega|exact rfl|exact nf vq|exact nt vq|decide|fail) only[if_pos,if_neg];first|done|rfl)|(rw[e0];simp(disch:=first|assumption|omega|exact rfl|exact nf vq|exact nt vq|decide|(simp_all;done)|fail) only[if_pos,if_neg];first|done|rfl))|skip
def Tx.ss(t:Tx):Prop:=t.l.length<=100000/\t.s.length<=100000
def Tx.ss.sm{t:Tx}(h:t.ss):t.sm:=⟨Jc h.1 vj,Jc h.2 vj⟩
def smN(n:Nat)(l:List Tx):Prop:=l.length<=n/\∀t∈l,t.ss
def smN.smL{n:Nat}{l:List Tx}(h:smN n l)(hn:n<=1000000):smL l:=⟨Jc h.1 hn,fun t ht=>(h.2 t ht).sm⟩
def smN.mono(h:smN n l)(hn:n<=m):smN m l:=⟨Jc h.1 hn,h.2⟩
def Q9(n:Nat):smN n []:=⟨Jg _,fun t h=>by simp at h⟩
def qu(h:al l=true):smN 64 l:=⟨lG h,fun t ht=>by
 obtain⟨i,hi,rfl⟩:=JM ht;have:=je (eK h hi)
 exact⟨vz,vz⟩⟩
def smN.set(h:smN n l)(i:Nat)(ht:t.ss):smN n (l.set i t):=
 ⟨by rw [Ju]; exact h.1,fun x hx=>by
  rcases List.mem_or_eq_of_mem_set hx with hx|rfl
  ·exact h.2 x hx
  ·exact ht⟩
def smN.rem(h:smN n l)(a:Int):smN n (bF l a):=
 ⟨Jc (xZ l a) h.1,fun x hx=>h.2 x ((J1.1 hx).1)⟩
def yN(a:Int):smN 65 (aY l a).1:=by
 unfold aY;split
 ·exact Q9 _
 ·rename_i h1;have hv:al l=true:=by simpa using h1
  have hs:=qu hv;split
  ·exact Q9 _
  split
  ·exact Q9 _
  split
  ·exact Q9 _
  refine⟨?_,fun x hx=>?_⟩
  ·have:=hs.1;unfold jc;simp only[Jf,Jq,Jn,JY];omega
  ·unfold jc at hx;rcases Jv.1 hx with h|h
   ·exact hs.2 x (JK h)
   rcases J5.1 h with rfl|h
   ·exact⟨Jg _,Jg _⟩
   ·exact hs.2 x (List.mem_of_mem_drop h)
def yO(h:(Qu l a).2=0):smN 64 l/\(Qu l a).1.l.length<=4096/\(Qu l a).1.s.length<=8:=by
 obtain⟨hv,i,hi,_,_,h3⟩:=jd h;rw[h3];exact⟨qu hv,je (eK hv hi)⟩
def Hb(a:Int):smN 65 (fq l a).1:=by
 unfold fq;split
 ·exact Q9 _
 rename_i h;obtain⟨h1,h2,h3⟩:=yO (l:=l) (a:=a) (by simpa using h);split
 ·exact Q9 _
 ·exact(h1.set _ ⟨vu,by dsimp only;simp;omega⟩).mono vz
def Hc(a sv:Int):smN 65 (ft l a sv).1:=by
 unfold ft;split
 ·exact Q9 _
 rename_i h;obtain⟨h1,h2,h3⟩:=yO (l:=l) (a:=a) (by simpa using h);have h4:∀k,((Qu l a).1.s.take k).length<=100000:=fun k=>by rw[Jq];omega
 split
 ·exact Q9 _
 split
 ·exact(h1.set _ ⟨vu,h4 _⟩).mono vz
 ·exact(h1.set _ ⟨vu,h4 _⟩).mono vz
def Hd(h:t.ss):(QD t).ss:=by unfold QD;split<;>exact h
def tV(e:E):smN 65 (QA l e).1:=by
 unfold QA;split
 ·exact Q9 _
 rename_i h1;have hv:al l=true:=by simpa using h1
 have hs:=qu hv;split
 ·exact Q9 _
 split
 ·exact hs.mono vz
 split
 ·exact Q9 _
 rename_i h4;rcases QB l e.tx with h|⟨i,hi,h,hid⟩
 ·omega
 rw[h,Jh,Qd l i hi];have hlen:=je (eK hv hi);unfold ir;split
 ·exact Q9 _
 split
 ·exact(hs.rem _).mono vz
 ·refine (hs.set _ (Hd ?_)).mono vz;unfold aX;have hfl:(l[i].l.filter fun x=>decide (x≠e.ref)).length<=l[i].l.length:=JH _ _;split
  ·exact⟨by dsimp only;simp;omega,vu⟩
  split
  ·exact⟨vu,vu⟩
  ·exact⟨vu,vv⟩
attribute [go_sem] Tx.d
structure Kn where
 pg:Int
 nx:Int
 lg:Lg
 pl:Pl
 lk:Lk
 tx:List Tx
 ix:List Rw
 la:List Dt
@[go_sem] def Kn.d(k:Kn):List DV:=[.int .i64 k.pg,.int .i64 k.nx,.int .i64 k.lg.f,.pv (.sl (fz encE k.lg.es)),.int .i64 k.lg.d,.int .i64 k.pl.size,.pv (.sl (fz aA k.pl.fs)),.int .i64 k.pl.hand,.pv (.sl (fz aj k.lk.held)),.pv (.sl (fz aj k.lk.wait)),.pv (.sl (fz ai k.tx)),.pv (.sl (fz ay k.ix)),.pv (.sl (fz aF k.la))]
def Kn0:Kn:=⟨0,0,Lg0,Pl0,Lk0,[],[],[]⟩
def Kn.sm(k:Kn):Prop:=k.lg.es.length<=4096/\k.pl.fs.length<=64/\k.lk.sum<=1024/\smN 65 k.tx/\k.ix.length<=64/\k.la.length<=10000
def dy:Kn0.sm:=⟨vj,vj,vj,Q9 _,vj,vj⟩
def VK(k:Kn):Prop:=(1<=k.pg/\k.pg<=64)/\(1<=k.nx/\k.nx<=1073741825)/\lgB k.lg=true/\plB k.pl=true/\al k.tx=true/\ixB k.ix=true/\k.ix.length=k.pg
def boD(b:Bool):DV:=.bool b
attribute [go_sem] boD tp lgD lF yJ yC
def laC(l:List Dt)(n:Int)(i:Nat):Bool:=decide (0<=(l.getD i Dt0).pg)&&(decide ((l.getD i Dt0).pg<n)&&(decide (1<=(l.getD i Dt0).rc)&&(decide ((l.getD i Dt0).rc<=(l.getD i Dt0).last)&&(decide ((l.getD i Dt0).last<=1099511627776)&&(decide (i=0)||decide ((l.getD (i-1) Dt0).pg<(l.getD i Dt0).pg))))))
def tW(l:List Dt)(n:Int)(i:Nat):laC l n i=true ↔ 0<=(l.getD i Dt0).pg/\(l.getD i Dt0).pg<n/\1<=(l.getD i Dt0).rc/\(l.getD i Dt0).rc<=(l.getD i Dt0).last/\(l.getD i Dt0).last<=1099511627776/\(i=0\/(l.getD (i-1) Dt0).pg<(l.getD i Dt0).pg):=by
 unfold laC;simp
def laB(l:List Dt)(n:Int):Bool:=(Jp l.length).all (laC l n)
def yP(l:List Dt)(hl:l.length<=1000000)(n:Int):VCalls prog 160 [.pv (.sl (fz aF l)),.int .i64 n] [] (QM boD fun b=>b=laB l n):=by
 refine dd Tryz.func160 ?_;have kn:∀i,i<l.length->laC l n i=false->laB l n=false:=fun i hi h=>de hi h;refine rn F ?_;refine Qj (fun s:Okay l.length (laC l n)=>⟨58,0,[(5,.int .i64 s.i),(1,.int .i64 n),(0,.pv (.sl (fz aF l)))],[]⟩) (fun s=>l.length-s.i) (Okay.start _ _) (gc []) ?_;intro s;have hi:=s.hi;have hx:=tW l n s.i;by_cases hc:s.i<l.length
 ·have hc':((s.i:Nat):Int) < l.length:=vz;have hg:=iz l s.i hc;have hgp:=fun h:s.i-1<l.length=>iz l (s.i-1) h;have kf:=kn s.i hc;have nx:=fun h:laC l n s.i=true=>(⟨s.next hc h,s.dec hc⟩:∃t:Okay l.length (laC l n),l.length-t.i<l.length-s.i)
  have F:=(Ja @hc' (Ja @hg @hgp))
  refine rn F ?_
  repeat' (first|with_reducible exact⟨⟩|(refine sG F ?_ ?_<;>intro hZ)|(refine sB F ?_ ?_<;>intro hZ)|(refine Qf (id:=5) [0,1,2,3,4,5,6,7,8,9,10,11,12,13,14,15,16,17,18,19,20,21,22,23,24,25,26,27,28,29,30,31,32,33,34,35,36,37,38,39,40] [] vw vw ?_;refine rn F ?_))
  all_goals first|exact⟨rfl,rfl,false,rfl,(kf (by rw[<-Bool.not_eq_true,hx];omega)).symm⟩|exact⟨s.next hc (hx.2 vz),s.dec hc,(gc [])⟩|skip
 ·have hc':¬((s.i:Nat):Int) < l.length:=vz;have F:=@hc';refine rn F ?_;exact⟨rfl,rfl,true,rfl,(s.all hc).symm⟩
@[go_sem] def laD(a:Dt×Bool):DV:=.tup [.agg a.1.d,.bool a.2]
def He{α:Type}(l:List α)(p:α->Bool)(d:α)(i:Nat)(h:i<l.length)(hp:p (l.getD i d)=true)(hn:∀j,j<i->p (l.getD j d)=false):l.find? p=some (l.getD i d):=by
 rw[List.find?_eq_some_iff_getElem];refine⟨hp,i,h,(Qd l i h d).symm,fun j hj=>?_⟩;grind
def Hf{α:Type}(l:List α)(p:α->Bool)(d:α)(hn:∀j,j<l.length->p (l.getD j d)=false):l.find? p=none:=by
 rw[JQ];intro x hx;obtain⟨j,hj,rfl⟩:=Jm.1 hx;grind
def aM(l:List Dt)(n:Int):Dt×Bool:=match l.find? fun d=>decide (d.pg=n) with
 |some d=>(d,true)
 |none=>(Dt0,false)
def qv(k:Kn)(hl:k.la.length<=1000000)(n:Int):VCalls prog 115 [.agg k.d,.int .i64 n] [] (QM laD fun a=>a=aM k.la n):=by
 refine dd Tryz.func115 ?_;refine rn F ?_;refine Qj (fun s:Okay k.la.length (fun j=>!decide ((k.la.getD j Dt0).pg=n))=>⟨28,0,[(6,.int .i64 s.i),(4,.ptr 1 0),(2,.ptr 0 0),(1,.int .i64 n)],[⟨39,true,k.d⟩,⟨187,true,[.int .i64 0,.int .i64 0,.int .i64 0]⟩]⟩) (fun s=>k.la.length-s.i) (Okay.start _ _) (gc [0,1]) ?_;intro s;have hi:=s.hi;have hno:∀j,j<s.i->decide ((k.la.getD j Dt0).pg=n)=false:=fun j hj=>by have:=s.ok j hj;simpa using this
 by_cases hc:s.i<k.la.length
 ·have hc':((s.i:Nat):Int) < k.la.length:=vz;have hg:=iz k.la s.i hc;by_cases hp:(k.la.getD s.i Dt0).pg=n
  ·have hf:aM k.la n = (k.la.getD s.i Dt0,true):=by unfold aM;rw [He k.la _ Dt0 s.i hc (decide_eq_true hp) hno]
   have hnx:=s.next hc
   generalize k.la.getD s.i Dt0=d at *;have F:=(Ja @hc' (Ja @hg @hp))
   (refine rn F ?_;try with_reducible exact⟨⟩)
   all_goals exact⟨rfl,rfl,(d,true),by simp[laD,Dt.d,hp],hf.symm⟩
  ·have hnx:=s.next hc (by rw [decide_eq_false hp];rfl)
   have hs2:(s.next hc (by rw[decide_eq_false hp];rfl)).i=s.i+1:=rfl;have hd:=s.dec hc;have F:=(Ja @hc' (Ja @hg @hp))
   (refine rn F ?_;try with_reducible exact⟨⟩)
   all_goals exact⟨s.next hc (by rw[decide_eq_false hp];rfl),by first|exact s.dec hc|(rw[hs2];omega),(gc [0,1])⟩
 ·have hc':¬((s.i:Nat):Int) < k.la.length:=vz;have hf:aM k.la n=(Dt0,false):=by unfold aM;rw[Hf k.la _ Dt0 fun j hj=>hno j vz]
  have F:=@hc';(refine rn F ?_;try with_reducible exact⟨⟩)
  all_goals exact⟨rfl,rfl,(Dt0,false),rfl,hf.symm⟩
def VP(k:Kn):Prop:=VK k/\lkB k.lk=true/\laB k.la k.pg=true
def jg(k:Kn):Bool:=decide (1<=k.pg)&&(decide (k.pg<=64)&&(decide (1<=k.nx)&&(decide (k.nx<=1073741825)&&(lgB k.lg&&(plB k.pl&&(lkB k.lk&&(al k.tx&&(ixB k.ix&&(decide ((k.ix.length:Int)=k.pg)&&laB k.la k.pg)))))))))
def yQ(k:Kn):jg k=true ↔ VP k:=by
 unfold jg VP VK;grind
def Hg(k:Kn)(h:k.sm):VCalls prog 114 [.agg k.d] [] (QM boD fun b=>b=jg k):=by
 refine dd Tryz.func114 ?_;obtain⟨h1,h2,h3,h4,h5,h6⟩:=h;have c1:=fS k.lg vz;have c2:=gJ k.pl vz;have c3:=j8 k.lk vz;have c4:=j4 k.tx (h4.smL vz);have c5:=lK k.ix vz;have c6:=fun n=>yP k.la vz n;have e:jg k=(decide (1<=k.pg)&&(decide (k.pg<=64)&&(decide (1<=k.nx)&&(decide (k.nx<=1073741825)&&(lgB k.lg&&(plB k.pl&&(lkB k.lk&&(al k.tx&&(ixB k.ix&&(decide ((k.ix.length:Int)=k.pg)&&laB k.la k.pg)))))))))):=rfl;generalize jg k=R at *;generalize lgB k.lg=b1 at *;generalize plB k.pl=b2 at *;generalize lkB k.lk=b3 at *;generalize al k.tx=b4 at *;generalize ixB k.ix=b5 at *;refine rn F ?_
 repeat' (first|with_reducible exact⟨⟩|(refine sG F ?_ ?_<;>intro hZ)|refine vp F (c1) ?_|refine vp F (c2) ?_|refine vp F (c3) ?_|refine vp F (c4) ?_|refine vp F (c5) ?_|(refine Qs (c6 _) rfl ?_;rintro b6 hb6;refine rn F ?_))
 all_goals first|(refine⟨rfl,rfl,false,rfl,?_⟩;rw[e];simp_all;done)|(refine⟨rfl,rfl,false,rfl,?_⟩;rw[e];simp_all;omega)|(refine⟨rfl,rfl,_,rfl,?_⟩;rw[e];simp_all;done)|(refine⟨rfl,rfl,_,rfl,?_⟩;rw[e];simp_all;omega)|skip
def yR(h:lgB ⟨f,es,d⟩=true)(hl:es.length<4096)(he:e.lsn=f+es.length)(ho:e.okB=true):lgB ⟨f,es++[e],d⟩=true:=by
 have hd:=bz h;simp only[Lg.hd] at hd;unfold lgB at h |-;simp only[Jb,decide_eq_true_eq,Jl,Jo] at h |-;refine⟨by simp only[Lg.hd,Jf,Jn,Jr];omega,fun i hi=>?_⟩;simp only[Jf,Jn,Jr] at hi;rcases JF i es.length with hlt|hge
 ·have:=h.2 i hlt;unfold lgC at this |-;dsimp only at this |-;rw[Jd,JA hlt,<-Jd];exact this
 ·obtain rfl:i = es.length:=vz;unfold lgC;dsimp only;rw[Jd,Js (JN _),JU];simp[he,ho]
def tX(h:(a8 x e).2.2=0):lgB x=true/\x.es.length<4096/\({ e with lsn:=x.end_+1 }:E).okB=true/\a8 x e=(⟨x.f,x.es++[{ e with lsn:=x.end_+1 }],x.d⟩,x.end_+1,0):=by
 unfold a8 at h |-;split at h
 ·simp at h
 rename_i h1;have hv:lgB x=true:=by simpa using h1
 split at h
 ·simp at h
 rename_i h2;split at h
 ·simp at h
 rename_i h3;have hd:=bz hv;simp only[Lg.hd] at hd;grind
def tY(h:(a8 x e).2.2=0):lgB (a8 x e).1=true:=by
 obtain⟨h1,h2,h3,h4⟩:=tX h;rw[h4];exact yR (f:=x.f) (d:=x.d) h1 h2 (by dsimp only;unfold Lg.end_;omega) h3
def yS(x:Lg)(e:E):(a8 x e).1.es.length<=4096:=by
 by_cases h:(a8 x e).2.2=0
 ·exact(bz (tY h)).2.2.1
 ·unfold a8 at h |-;split
  ·decide
  split
  ·decide
  split
  ·decide
  ·simp_all
def Hh(h:(a8 x e).2.2=0):ah (a8 x e).1 (a8 x e).2.1=({ e with lsn:=x.end_+1 },0):=by
 have hl:=tY h;obtain⟨h1,h2,h3,h4⟩:=tX h;rw[h4] at hl |-;unfold ah;dsimp only at hl |-;have hd:=bz h1;simp only[Lg.hd] at hd;rw[if_neg (by rw[hl];decide),if_neg (by unfold Lg.end_;simp only[Jf,Jn,Jr];omega)];have:(x.end_+1-x.f).toNat=x.es.length:=by unfold Lg.end_;omega
 grind
def yU(l:List Rw)(e:E)(h:l.length<=64):(aZ l e).1.length<=64:=by
 unfold aZ;grind
def Hi(l:List Tx)(e:E):smN 65 (QA l e).1:=tV e
def kT(k:Kn)(i:Nat):Bool:=decide ((k.tx.getD i Tx0).id<k.nx)
def kF(k:Kn)(i:Nat):Bool:=decide ((k.pl.fs.getD i Fm0).pg.id<k.pg)&&!(aM k.la (k.pl.fs.getD i Fm0).pg.id).2
def kG(l:List Gr)(n:Int)(i:Nat):Bool:=decide ((l.getD i Gr0).pg<n)
def kB(k:Kn):Bool:=jg k&&((Jp k.tx.length).all (kT k)&&((Jp k.pl.fs.length).all (kF k)&&((Jp k.lk.held.length).all (kG k.lk.held k.pg)&&(Jp k.lk.wait.length).all (kG k.lk.wait k.pg))))
structure V2(k:Kn):Prop where
 ids:∀i,i<k.tx.length->(k.tx.getD i Tx0).id<k.nx
 frs:∀i,i<k.pl.fs.length->(k.pl.fs.getD i Fm0).pg.id<k.pg/\(aM k.la (k.pl.fs.getD i Fm0).pg.id).2=false
def qw(h:kB k=true):VP k:=by
 unfold kB at h;rw[Jb] at h;exact(yQ k).1 h.1
def dW{k:Kn}(h:kB k=true):VK k:=(qw h).1
def lL(h:kB k=true):V2 k:=by
 unfold kB at h;simp only[Jb,Jl,Jo] at h;obtain⟨_,h1,h2,_⟩:=h;refine⟨fun i hi=>by simpa [kT] using h1 i hi,fun i hi=>by simpa [kF] using h2 i hi⟩
def gN(k:Kn)(h:k.sm):VCalls prog 87 [.agg k.d] [] (Ret (.bool (kB k))):=by
 refine dd Tryz.func87 ?_;have c1:=Hg k h;obtain⟨h1,h2,h3,h4,h5,h6⟩:=h;have c2:=qv k vz;unfold Lk.sum at h3;have h40:=h4.1;have k0:jg k=false->kB k=false:=fun h=>by unfold kB;rw[h];rfl
 have k1:∀i,i<k.tx.length->kT k i=false->kB k=false:=fun i hi h=>by unfold kB;rw[de hi h];simp
 have k2:∀i,i<k.pl.fs.length->kF k i=false->kB k=false:=fun i hi h=>by unfold kB;rw[de hi h];simp
 have k3:∀i,i<k.lk.held.length->kG k.lk.held k.pg i=false->kB k=false:=fun i hi h=>by unfold kB;rw[de hi h];simp
 have k4:∀i,i<k.lk.wait.length->kG k.lk.wait k.pg i=false->kB k=false:=fun i hi h=>by unfold kB;rw[de hi h];simp
 have k5:jg k=true->(Jp k.tx.length).all (kT k)=true->(Jp k.pl.fs.length).all (kF k)=true->(Jp k.lk.held.length).all (kG k.lk.held k.pg)=true->(Jp k.lk.wait.length).all (kG k.lk.wait k.pg)=true->kB k=true:=fun a b c d e=>by unfold kB;rw[a,b,c,d,e];rfl
 generalize kB k=R at *;refine rn F ?_;refine Qs c1 rfl ?_;rintro b hb;cases b
 ·skip
  refine rn F ?_;rw[k0 hb.symm]
 refine rn F ?_;refine Qj (fun s:Okay k.tx.length (kT k)=>⟨94,0,[(3,.int .i64 s.i),(1,.ptr 0 0)],[⟨39,true,k.d⟩]⟩) (fun s=>k.tx.length-s.i) (Okay.start _ _) (gc [0]) ?_;intro s;have hi:=s.hi;by_cases hc:s.i<k.tx.length
 ·have hc':((s.i:Nat):Int) < k.tx.length:=vz;have hg:=dx k.tx s.i hc;have kn:=k1 s.i hc;have F:=(Ja @hc' @hg)
  refine rn F ?_
  repeat' (first|with_reducible exact⟨⟩|(refine sB F ?_ ?_<;>intro hZ)|(refine Qf (id:=6) [0,1,2,3,4,5,6,7,8] [] vw vw ?_;refine rn F ?_))
  all_goals first|(rw[kn (by unfold kT;exact decide_eq_false vz)])|exact⟨s.next hc (decide_eq_true vz),s.dec hc,(gc [0])⟩
 have hc':¬((s.i:Nat):Int)<k.tx.length:=vz;have k6:=k5 hb.symm (s.all hc);have F:=@hc';refine rn F ?_;refine Qj (fun s:Okay k.pl.fs.length (kF k)=>⟨94,0,[(4,.int .i64 s.i),(1,.ptr 0 0)],[⟨39,true,k.d⟩]⟩) (fun s=>k.pl.fs.length-s.i) (Okay.start _ _) (gc [0]) ?_;intro r;have hr:=r.hi;by_cases hcr:r.i<k.pl.fs.length
 ·have hcr':((r.i:Nat):Int) < k.pl.fs.length:=vz;have hf:=dQ k.pl.fs r.i hcr;have kn:=k2 r.i hcr;have ef:kF k r.i=(decide ((k.pl.fs.getD r.i Fm0).pg.id<k.pg)&&!(aM k.la (k.pl.fs.getD r.i Fm0).pg.id).2):=rfl;have F:=(Ja @hcr' @hf)
  refine rn F ?_
  repeat' (first|with_reducible exact⟨⟩|(refine sB F ?_ ?_<;>intro hZ))
  all_goals first|(rw[kn (by rw[ef,decide_eq_false vz];rfl)])|skip
  refine Qs (c2 _) rfl ?_;rintro⟨a,b2⟩ hb2;have hl2:(aM k.la (k.pl.fs.getD r.i Fm0).pg.id).2=b2:=by rw[<-hb2]
  cases b2
  ·skip
   have F:=trivial;refine rn F ?_;exact⟨r.next hcr (by rw[ef,decide_eq_true vz,hl2];rfl),r.dec hcr,(gc [0])⟩
  ·skip
   have F:=trivial;refine rn F ?_;rw[kn (by rw[ef,hl2];simp)]
 have hcr':¬((r.i:Nat):Int)<k.pl.fs.length:=vz;have k7:=k6 (r.all hcr);have F:=@hcr';refine rn F ?_;refine Qj (fun s:Okay k.lk.held.length (kG k.lk.held k.pg)=>⟨94,0,[(8,.int .i64 s.i),(1,.ptr 0 0)],[⟨39,true,k.d⟩]⟩) (fun s=>k.lk.held.length-s.i) (Okay.start _ _) (gc [0]) ?_;intro u;have hu:=u.hi;by_cases hcu:u.i<k.lk.held.length
 ·have hcu':((u.i:Nat):Int) < k.lk.held.length:=vz;have hx:=bM k.lk.held u.i hcu;have kn:=k3 u.i hcu;have F:=(Ja @hcu' @hx)
  refine rn F ?_
  repeat' (first|with_reducible exact⟨⟩|(refine sB F ?_ ?_<;>intro hZ)|(refine Qf (id:=20) [0,1,2,3,4,5,6,7,8,9,10] [] vw vw ?_;refine rn F ?_))
  all_goals first|(rw[kn (by unfold kG;exact decide_eq_false vz)])|exact⟨u.next hcu (decide_eq_true vz),u.dec hcu,(gc [0])⟩
 have hcu':¬((u.i:Nat):Int)<k.lk.held.length:=vz;have k8:=k7 (u.all hcu);have F:=@hcu';refine rn F ?_;refine Qj (fun s:Okay k.lk.wait.length (kG k.lk.wait k.pg)=>⟨94,0,[(9,.int .i64 s.i),(1,.ptr 0 0)],[⟨39,true,k.d⟩]⟩) (fun s=>k.lk.wait.length-s.i) (Okay.start _ _) (gc [0]) ?_;intro w;have hw:=w.hi;by_cases hcw:w.i<k.lk.wait.length
 ·have hcw':((w.i:Nat):Int) < k.lk.wait.length:=vz;have hx:=bM k.lk.wait w.i hcw;have kn:=k4 w.i hcw;have F:=(Ja @hcw' @hx)
  refine rn F ?_
  repeat' (first|with_reducible exact⟨⟩|(refine sB F ?_ ?_<;>intro hZ)|(refine Qf (id:=25) [0,1,2,3,4,5,6,7,8,9,10] [] vw vw ?_;refine rn F ?_))
  all_goals first|(rw[kn (by unfold kG;exact decide_eq_false vz)])|exact⟨w.next hcw (decide_eq_true vz),w.dec hcw,(gc [0])⟩
 have hcw':¬((w.i:Nat):Int)<k.lk.wait.length:=vz;have F:=@hcw';refine rn F ?_;rw[k8 (w.all hcw)]
def lM(k:Kn)(h:k.sm):VCalls prog 87 [.agg k.d] [] (QM boD fun b=>b=true->VK k):=
 (gN k h).toS (kB k) rfl dW
@[go_sem] def inD(n:Int):DV:=.int .i64 n
def qx(k:Kn)(n:Int):Int:=if 0<=idF k.pl.fs n then (k.pl.fs.getD (idF k.pl.fs n).toNat Fm0).pg.lsn else if (aM k.la n).2=true then (aM k.la n).1.last else (k.ix.getD n.toNat Rw0).lsn
def dX(k:Kn)(n:Int):Int:=if kB k=true/\0<=n/\n<k.pg then qx k n else 0
def tZ(k:Kn)(h:k.sm)(n:Int):VCalls prog 118 [.agg k.d,.int .i64 n] [] (QM inD fun a=>a=dX k n):=by
 refine dd Tryz.func118 ?_;have c1:=gN k h;have hvk:=@dW k;have e0:∀h:¬(kB k=true/\0<=n/\n<k.pg),dX k n=0:=fun h=>if_neg h;have e1:∀h:kB k=true/\0<=n/\n<k.pg,dX k n=qx k n:=fun h=>if_pos h;generalize dX k n=R at *;generalize kB k=v at *;obtain⟨h1,h2,h3,h4,h5,h6⟩:=h;have c2:=qv k vz n;have c3:=nO k.pl vz n;refine rn F ?_;cases v
 ·skip
  refine rn F ?_
  repeat' (first|with_reducible exact⟨⟩|refine vp F (c1) ?_)
  all_goals exact⟨rfl,rfl,_,rfl,(e0 vv).symm⟩
 obtain⟨v1,v2,v3,v4,v5,v6,v7⟩:=hvk rfl;by_cases hn:0<=n/\n<k.pg;rotate_left
 ·skip
  refine rn F ?_
  repeat' (first|with_reducible exact⟨⟩|(refine sG F ?_ ?_<;>intro hZ)|refine vp F (c1) ?_)
  all_goals first|exact⟨rfl,rfl,_,rfl,(e0 (fun h=>hn h.2)).symm⟩|(exfalso;omega)
 have hR:=e1 ⟨rfl,hn⟩;unfold qx at hR;have hg:=nL k.ix n.toNat vz;have hfs:bg k.pl n=idF k.pl.fs n:=by unfold bg;rw[if_pos v4]
 unfold aN at c3;rw[hfs] at c3;by_cases hi:0<=idF k.pl.fs n
 ·rw [if_neg vz] at c3;rw[if_pos hi] at hR;refine rn F ?_
  repeat' (first|with_reducible exact⟨⟩|refine vp F (c1) ?_|refine vp F (c3) ?_)
  all_goals first|exact⟨rfl,rfl,_,rfl,hR.symm⟩|(exfalso;omega)
 rw[if_pos vz] at c3;rw[if_neg hi] at hR;have F:=@hg;refine rn F ?_
 repeat' (first|with_reducible exact⟨⟩|(refine sB F ?_ ?_<;>intro hZ)|refine vp F (c1) ?_|refine vp F (c3) ?_|(refine Qs (c2) rfl ?_;rintro⟨a,b2⟩ hl;refine rn F ?_))
 all_goals first|(exfalso;omega)|(rw[<-hl,if_pos wy] at hR;exact⟨rfl,rfl,_,rfl,hR.symm⟩)|(rw[<-hl,if_neg wy] at hR;exact⟨rfl,rfl,_,rfl,hR.symm⟩)|skip
def qy(k:Kn)(h:k.sm)(n:Int):VCalls prog 102 [.agg k.d,.int .i64 n] [] (QM (fun d:Int=>.agg (Kn.d ⟨k.pg,k.nx,⟨k.lg.f,k.lg.es,d⟩,k.pl,k.lk,k.tx,k.ix,k.la⟩)) fun d=>k.lg.d<=d/\(lgB k.lg=true->lgB ⟨k.lg.f,k.lg.es,d⟩=true)/\(lgB k.lg=true->n<=k.lg.end_->n<=d)):=by
 refine dd Tryz.func102 ?_;obtain⟨h1,h2,h3,h4,h5,h6⟩:=h;have c1:=qt k.lg vz;have c2:=tT k.lg vz
 have e:∀n,(QY k.lg n).2=0->(QY k.lg n).1=⟨k.lg.f,k.lg.es,(QY k.lg n).1.d⟩/\lgB (QY k.lg n).1=true/\k.lg.d<=(QY k.lg n).1.d/\n<=(QY k.lg n).1.d:=fun n h=>by
  unfold QY at h |-;split at h
  ·simp at h
  rename_i q1;split at h
  ·simp at h
  rename_i q2;rw[if_neg q1,if_neg q2];refine⟨rfl,?_,by dsimp only;split<;>omega,by dsimp only;split<;>omega⟩;have hv:lgB k.lg=true:=by simpa using q1
  have hd:=bz hv;unfold lgB at hv |-;simp only[Jb,decide_eq_true_eq] at hv |-;refine⟨?_,hv.2⟩;simp only[Lg.hd,Lg.end_] at hd q2 |-;split<;>omega
 have eL:lgB k.lg=true->eR k.lg=k.lg.end_:=fun h=>if_pos h
 have eF:∀n,lgB k.lg=true->n<=k.lg.end_->(QY k.lg n).2=0:=fun n h q=>by
  unfold QY;rw[if_neg (by rw[h];decide),if_neg vz]
 generalize eR k.lg=L at *;refine rn F ?_
 repeat' (first|with_reducible exact⟨⟩|(refine sB F ?_ ?_<;>intro hZ)|refine vp F (c1) ?_|refine vp F (c2 _) ?_|(refine Qf (id:=1) [0,1,2,3,4] [⟨[11],[],5,[0,1,2,3],[6]⟩,⟨[11],[],7,[0,2,3,4],[8,9,10]⟩,⟨[11],[11],12,[10],[]⟩,⟨[],[],13,[],[]⟩] vw vw ?_;refine rn F ?_))
 ·have hz:=hZ;obtain⟨e1,e2,e3,e4⟩:=e _ hz;generalize hr:QY k.lg _=r at *;obtain⟨⟨f',es',d'⟩,er⟩:=r;simp only[Lg.mk.injEq] at e1;obtain⟨rfl,rfl,_⟩:=e1;exact⟨rfl,rfl,d',rfl,e3,fun _=>e2,fun h q=>by have:=eL h;dsimp only at e4;omega⟩
 ·have hz:=hZ;exact⟨rfl,rfl,k.lg.d,rfl,JO _,fun h=>h,fun h q=>absurd (eF _ h (by have:=eL h;omega)) hz⟩
@[go_sem] def kie(a:Kn×Int×Int):DV:=.tup [.agg a.1.d,.int .i64 a.2.1,.int .i64 a.2.2]
def yV(k:Kn)(a:Kn×Int×Int):Prop:=a.1.sm/\(a.2.2=0->kB k=true/\(aY k.tx k.nx).2=0/\a.1=⟨k.pg,k.nx+1,k.lg,k.pl,k.lk,(aY k.tx k.nx).1,k.ix,k.la⟩)
def Hj(k:Kn)(h:k.sm):VCalls prog 79 [.agg k.d] [] (QM kie (yV k)):=by
 refine dk Tryz.func79 ?_;have c1:=gN k h;have h':=h;obtain⟨h1,h2,h3,h4,h5,h6⟩:=h;have c2:=ye k.tx (h4.smL vz) k.nx;have hsm:=yN (l:=k.tx) k.nx;have e0:∀er n,er≠0->yV k (Kn0,n,er):=fun er n h=>⟨dy,fun h2=>absurd h2 h⟩
 refine rn F ?_;cases hv:kB k
 ·rw [hv] at c1;refine rn F ?_
  repeat' (first|with_reducible exact⟨⟩|refine vp F (c1) ?_)
  all_goals exact⟨rfl,rfl,(Kn0,0,15),rfl,e0 _ _ vj⟩
 rw[hv] at c1;obtain⟨v1,v2,v3,v4,v5,v6,v7⟩:=dW hv;refine rn F ?_
 repeat' (first|with_reducible exact⟨⟩|(refine sB F ?_ ?_<;>intro hZ)|refine vp F (c1) ?_|refine vp F (c2) ?_|(refine Qf (id:=10) [0,1,2,3] [⟨[],[],4,[1,2,3],[]⟩,⟨[],[],5,[],[]⟩,⟨[],[],6,[],[]⟩] vw vw ?_;refine rn F ?_))
 all_goals first|exact⟨rfl,rfl,(Kn0,0,21),rfl,e0 _ _ vj⟩|exact⟨rfl,rfl,(Kn0,0,(aY k.tx k.nx).2),rfl,e0 _ _ vq⟩|exact⟨rfl,rfl,(⟨k.pg,k.nx+1,k.lg,k.pl,k.lk,(aY k.tx k.nx).1,k.ix,k.la⟩,k.nx+1-1,0),rfl,⟨h1,h2,h3,hsm,h5,h6⟩,fun _=>⟨hv,vz,rfl⟩⟩|skip
def Kn.add(k:Kn)(e:E):Kn:=⟨k.pg,k.nx,⟨k.lg.f,k.lg.es++[e],k.lg.d⟩,k.pl,k.lk,(QA k.tx e).1,(aZ k.ix e).1,k.la⟩
def yW(e e':E):Prop:=e'.kind=e.kind/\e'.tx=e.tx/\e'.ref=e.ref/\e'.c=e.c/\e'.blob=e.blob
def AddOk(k:Kn)(e e':E):Prop:=kB k=true/\yW e e'/\e'.okB=true/\e'.lsn=k.lg.end_+1/\k.lg.es.length<4096/\(QA k.tx e').2=0/\(aZ k.ix e').2=0/\(e.tx=0->e'.ptx=0)/\(0<e.tx->∃i,i<k.tx.length/\idT k.tx e.tx=i/\e'.ptx=(k.tx.getD i Tx0).n)/\((e.kind=1\/e.kind=2)->e'.ppg=dX k e.c.pg)/\(¬(e.kind=1\/e.kind=2)->e'.ppg=0)
def dY(k:Kn)(e:E)(a:Kn×Int×Int):Prop:=a.1.sm/\(a.2.2=0->∃e',AddOk k e e'/\a.1=k.add e'/\a.2.1=e'.lsn/\lgB a.1.lg=true)
def Hk(k:Kn)(e:E)(n er:Int)(h:er≠0):dY k e (Kn0,n,er):=⟨dy,fun h2=>absurd h2 h⟩
def qA(hs:k.sm)(hv:kB k=true)(h:(a8 k.lg e1).2.2=0)(hn:(QA k.tx (ah (a8 k.lg e1).1 (a8 k.lg e1).2.1).1).2=0)(hr:(aZ k.ix (ah (a8 k.lg e1).1 (a8 k.lg e1).2.1).1).2=0)(hse:yW e e1)(h0:e.tx=0->e1.ptx=0)(hi:0<e.tx->∃i,i<k.tx.length/\idT k.tx e.tx=i/\e1.ptx=(k.tx.getD i Tx0).n)(hp1:(e.kind=1\/e.kind=2)->e1.ppg=dX k e.c.pg)(hp2:¬(e.kind=1\/e.kind=2)->e1.ppg=0):
 dY k e (⟨k.pg,k.nx,(a8 k.lg e1).1,k.pl,k.lk,(QA k.tx (ah (a8 k.lg e1).1 (a8 k.lg e1).2.1).1).1,(aZ k.ix (ah (a8 k.lg e1).1 (a8 k.lg e1).2.1).1).1,k.la⟩,(a8 k.lg e1).2.1,0):=by
 have hg:=Hh h;have hl:=tY h;obtain⟨q1,q2,q3,q4⟩:=tX h;have hlen:=yS k.lg e1;obtain⟨s1,s2,s3,s4,s5,s6⟩:=hs;rw[hg] at hn hr |-;rw[q4] at hl hlen |-;exact⟨⟨hlen,s2,s3,Hi _ _,yU _ _ s5,s6⟩,fun _=>⟨{ e1 with lsn:=k.lg.end_+1 },⟨hv,hse,q3,rfl,q2,hn,hr,h0,hi,hp1,hp2⟩,rfl,rfl,hl⟩⟩
def kg (k:Kn) (h:k.sm) (e:E):VCalls prog 110 [.agg k.d,.agg e.d] [] (QM kie (dY k e)):=by
 refine dk Tryz.func110 ?_;have c1:=gN k h;have ch:=tZ k h e.c.pg;have h':=h;obtain⟨h1,h2,h3,h4,h5,h6⟩:=h;have c2:=gF k.tx (Jc h4.1 vj) e.tx;have hq:=Hk k e;obtain⟨lsn,kind,tx,ptx,ppg,ref,c,blob⟩:=e;dsimp only at c2 ch;have c3:=fun p=>nu ⟨lsn,kind,tx,p,0,ref,c,blob⟩;have c4:=fun e=>G8 k.lg vz e;have c5:=fun e=>lJ (a8 k.lg e).1 (by have:=yS k.lg e;omega) (a8 k.lg e).2.1;have c6:=fun e=>tG k.tx (h4.smL vz) e;have c7:=fun e=>yM k.ix vz e;dsimp only at c3;obtain⟨ch0,hch0⟩:∃b:Bool,(kind==1||kind==2)=b:=⟨_,rfl⟩
 rw[hch0] at c3;have hk1:ch0=true->(kind=1\/kind=2):=fun h=>by rw[h] at hch0;simpa using hch0
 have hk2:ch0=false->¬(kind=1\/kind=2):=fun h=>by rw[h] at hch0;simpa using hch0
 clear hch0;refine rn F ?_;cases hv:kB k
 ·rw [hv] at c1;refine rn F ?_
  repeat' (first|with_reducible exact⟨⟩|refine vp F (c1) ?_)
  all_goals exact⟨rfl,rfl,(Kn0,0,15),rfl,hq _ _ vj⟩
 rw[hv] at c1;by_cases ht:0<tx
 ·rcases QB k.tx tx with hi|⟨i,hi,hid,_⟩
  ·rw [hi] at c2;have F:=@ht;refine rn F ?_
   repeat' (first|with_reducible exact⟨⟩|refine vp F (c1) ?_|refine vp F (c2) ?_)
   all_goals exact⟨rfl,rfl,(Kn0,0,16),rfl,hq _ _ vj⟩
  ·rw [hid] at c2;have hg:=dx k.tx i hi;cases ch0
   ·skip
    have F:=(Ja @ht @hg)
    refine rn F ?_
    repeat' (first|with_reducible exact⟨⟩|(refine sB F ?_ ?_<;>intro hZ)|refine vp F (c1) ?_|refine vp F (c2) ?_|refine vp F (c3 _) ?_|refine vp F (c4 ⟨_,_,_,_,_,_,⟨_,_,⟨_,_⟩,⟨_,_⟩⟩,_⟩) ?_|refine vp F (c5 _) ?_|refine vp F (c6 _) ?_|refine vp F (c7 _) ?_|(refine Qf (id:=21) [0,1,2,3] [⟨[],[],4,[1,2],[5]⟩,⟨[],[],6,[2],[7]⟩,⟨[],[],8,[],[]⟩] vw vw ?_;refine rn F ?_))
    all_goals first
     |exact⟨rfl,rfl,(Kn0,0,_),rfl,hq _ _ vq⟩
     | (have q:=qA (e:=⟨lsn,kind,tx,ptx,ppg,ref,c,blob⟩) (e1:=⟨lsn,kind,tx,(k.tx.getD i Tx0).n,0,ref,c,blob⟩) h' hv vz vz vz ⟨rfl,rfl,rfl,rfl,rfl⟩ (fun h=>by dsimp only at h; omega) (fun _=>⟨i,hi,hid,rfl⟩) (fun h=>absurd h (hk2 rfl)) (fun _=>rfl)
        exact⟨rfl,rfl,_,rfl,q⟩)
     |skip
   ·skip
    have F:=(Ja @ht @hg)
    refine rn F ?_
    repeat' (first|with_reducible exact⟨⟩|(refine sB F ?_ ?_<;>intro hZ)|refine vp F (c1) ?_|refine vp F (c2) ?_|refine vp F (c3 _) ?_|(refine Qs (ch) rfl ?_;rintro hd hhd;refine rn F ?_)|refine vp F (c4 ⟨_,_,_,_,_,_,⟨_,_,⟨_,_⟩,⟨_,_⟩⟩,_⟩) ?_|refine vp F (c5 _) ?_|refine vp F (c6 _) ?_|refine vp F (c7 _) ?_|(refine Qf (id:=21) [0,1,2,3] [⟨[],[],4,[1,2],[5]⟩,⟨[],[],6,[2],[7]⟩,⟨[],[],8,[],[]⟩] vw vw ?_;refine rn F ?_))
    all_goals first
     |exact⟨rfl,rfl,(Kn0,0,_),rfl,hq _ _ vq⟩
     | (have q:=qA (e:=⟨lsn,kind,tx,ptx,ppg,ref,c,blob⟩) (e1:=⟨lsn,kind,tx,(k.tx.getD i Tx0).n,hd,ref,c,blob⟩) h' hv vz vz vz ⟨rfl,rfl,rfl,rfl,rfl⟩ (fun h=>by dsimp only at h; omega) (fun _=>⟨i,hi,hid,rfl⟩) (fun _=>hhd) (fun h=>absurd (hk1 rfl) h)
        exact⟨rfl,rfl,_,rfl,q⟩)
     |skip
 ·cases ch0
  ·skip
   have F:=@ht;refine rn F ?_
   repeat' (first|with_reducible exact⟨⟩|(refine sB F ?_ ?_<;>intro hZ)|refine vp F (c1) ?_|refine vp F (c3 _) ?_|refine vp F (c4 ⟨_,_,_,_,_,_,⟨_,_,⟨_,_⟩,⟨_,_⟩⟩,_⟩) ?_|refine vp F (c5 _) ?_|refine vp F (c6 _) ?_|refine vp F (c7 _) ?_|(refine Qf (id:=21) [0,1,2,3] [⟨[],[],4,[1,2],[5]⟩,⟨[],[],6,[2],[7]⟩,⟨[],[],8,[],[]⟩] vw vw ?_;refine rn F ?_))
   all_goals first
    |exact⟨rfl,rfl,(Kn0,0,_),rfl,hq _ _ vq⟩
    | (have q:=qA (e:=⟨lsn,kind,tx,ptx,ppg,ref,c,blob⟩) (e1:=⟨lsn,kind,tx,0,0,ref,c,blob⟩) h' hv vz vz vz ⟨rfl,rfl,rfl,rfl,rfl⟩ (fun _=>rfl) (fun h=>absurd h ht) (fun h=>absurd h (hk2 rfl)) (fun _=>rfl)
       exact⟨rfl,rfl,_,rfl,q⟩)
    |skip
  ·skip
   have F:=@ht;refine rn F ?_
   repeat' (first|with_reducible exact⟨⟩|(refine sB F ?_ ?_<;>intro hZ)|refine vp F (c1) ?_|refine vp F (c3 _) ?_|(refine Qs (ch) rfl ?_;rintro hd hhd;refine rn F ?_)|refine vp F (c4 ⟨_,_,_,_,_,_,⟨_,_,⟨_,_⟩,⟨_,_⟩⟩,_⟩) ?_|refine vp F (c5 _) ?_|refine vp F (c6 _) ?_|refine vp F (c7 _) ?_|(refine Qf (id:=21) [0,1,2,3] [⟨[],[],4,[1,2],[5]⟩,⟨[],[],6,[2],[7]⟩,⟨[],[],8,[],[]⟩] vw vw ?_;refine rn F ?_))
   all_goals first
    |exact⟨rfl,rfl,(Kn0,0,_),rfl,hq _ _ vq⟩
    | (have q:=qA (e:=⟨lsn,kind,tx,ptx,ppg,ref,c,blob⟩) (e1:=⟨lsn,kind,tx,0,hd,ref,c,blob⟩) h' hv vz vz vz ⟨rfl,rfl,rfl,rfl,rfl⟩ (fun _=>rfl) (fun h=>absurd h ht) (fun _=>hhd) (fun h=>absurd (hk1 rfl) h)
       exact⟨rfl,rfl,_,rfl,q⟩)
    |skip
structure Cp where
 pg:Int
 nx:Int
 tx:List Tx
 dl:List Dt
 ix:List Rw
def cJ(s:List UInt8)(l:List Int):List UInt8:=l.foldl (fun s n=>Ql s n 8) s
def dZ(s:List UInt8)(t:Tx):List UInt8:=cJ (Ql (cJ (Ql (Ql (Ql (Ql (Ql s t.id 4) t.st 1) t.n 8) t.b 8) t.l.length 2) t.l) t.s.length 1) t.s
def ee(s:List UInt8)(l:List Tx):List UInt8:=l.foldl dZ s
def aU(l:List Tx):List UInt8:=ee (Ql [] l.length 2) l
def iB(s:List UInt8)(r:Rw):List UInt8:=Ql (Ql (Ql s r.lsn 8) r.im 8) r.at_ 8
def dz(s:List UInt8)(l:List Rw):List UInt8:=l.foldl iB s
def ca(l:List Rw):List UInt8:=dz (Ql [] l.length 2) l
def iC(s:List UInt8)(d:Dt):List UInt8:=Ql (Ql (Ql s d.pg 1) d.rc 8) d.last 8
def cS(s:List UInt8)(l:List Dt):List UInt8:=l.foldl iC s
def Hl(c:Cp):List UInt8:=Ql (Ql (Ql (Ql [] c.pg 2) c.nx 4) (aU c.tx).length 4++aU c.tx) c.dl.length 1
def aP(c:Cp):List UInt8:=cS (Hl c) c.dl++ca c.ix
def CkV(c:Cp):Prop:=(1<=c.pg/\c.pg<=64)/\(1<=c.nx/\c.nx<=1073741825)/\al c.tx=true/\laB c.dl c.pg=true/\ixB c.ix=true/\(c.ix.length:Int)=c.pg
structure CkOf(k:Kn)(c:Cp):Prop where
 pg:c.pg=k.pg
 nx:c.nx=k.nx
 tx:c.tx=k.tx
 ix:c.ix=k.ix
 dl:∀d∈c.dl,(∃e∈k.la,e.pg=d.pg/\e.last=d.last)\/∃f∈k.pl.fs,f.dirty=true/\f.pg.id=d.pg/\f.pg.lsn=d.last
 la:∀e∈k.la,∃d∈c.dl,d.pg=e.pg
 fs:∀f∈k.pl.fs,f.dirty=true->∃d∈c.dl,d.pg=f.pg.id
def CkP(k:Kn)(s:List UInt8):Prop:=s=[]\/∃c,CkOf k c/\CkV c/\s=aP c
def QW(l:List Tx)(a:Int):Tx:=l.getD (idT l a).toNat Tx0
def lN(k:Kn)(t:Tx)(y:E):Prop:=∃i,i<t.l.length/\(ah k.lg (t.l.getD i 0)).2=0/\y=(ah k.lg (t.l.getD i 0)).1/\∀j,i<j->j<t.l.length->(ah k.lg (t.l.getD j 0)).2=0->¬((ah k.lg (t.l.getD j 0)).1.c.pg=y.c.pg/\(ah k.lg (t.l.getD j 0)).1.c.sl=y.c.sl)
def kk(k:Kn)(e:E):Prop:=0<=idT k.tx e.tx/\((e.kind=3\/e.kind=4)->(QW k.tx e.tx).st≠3)/\(e.kind=5->(QW k.tx e.tx).st=3/\(QW k.tx e.tx).l=[])
def bh(p:Pl)(e:E):Pg:=⟨((aN p e.c.pg).1.setc e.c.sl.toNat e.c.a).id,e.lsn,((aN p e.c.pg).1.setc e.c.sl.toNat e.c.a).cel⟩
def lO(k:Kn)(e:E):Prop:=0<=idT k.tx e.tx/\(e.kind=1->(QW k.tx e.tx).st=1)/\(e.kind=2->(QW k.tx e.tx).st≠1/\∃y,lN k (QW k.tx e.tx) y/\e.ref=y.lsn/\e.c=⟨y.c.pg,y.c.sl,y.c.a,y.c.b⟩)/\(aN k.pl e.c.pg).2=true/\(aN k.pl e.c.pg).1.cel e.c.sl.toNat=e.c.b
def Kn.set(k:Kn)(e:E):Kn:=⟨k.pg,k.nx,(k.add e).lg,(aO k.pl (bh k.pl e)).1,k.lk,(k.add e).tx,(k.add e).ix,k.la⟩
def Kn.wrt(k:Kn)(e:E):Kn:=⟨k.pg,k.nx,(k.add e).lg,(bR k.pl e.c.pg e.ref).1,k.lk,(k.add e).tx,(k.add e).ix,k.la⟩
def ua(k:Kn)(e:E):Prop:=∃i:Nat,i<k.pl.fs.length/\idF k.pl.fs e.c.pg=i/\(k.pl.fs.getD i Fm0).pg.lsn=e.ref/\(bR k.pl e.c.pg e.ref).2=0/\(k.pl.fs.getD i Fm0).dirty=true
def LkNeed(k:Kn)(a pg sl:Int):Prop:=0<=idT k.tx a/\∃x∈k.lg.es,x.tx=a/\x.kind=1/\x.c.pg=pg/\x.c.sl=sl/\((QW k.tx a).st≠3\/x.lsn∈(QW k.tx a).l)
def LkP(k:Kn)(u:Lk):Prop:=∀a pg sl,LkNeed k a pg sl->exG k.lk.held a pg sl->exG u.held a pg sl
def LkP.of(h:ExS k.lk.held u.held):LkP k u:=fun _ _ _ _ q=>h _ _ _ q
inductive PutK (k:Kn) (x:Pg):Kn->Prop
 |put:kB k=true->0<=x.id/\x.id<k.pg->x.lsn=dX k x.id->(dV k.pl x).2=0->(aM k.la x.id).2=false->PutK k x ⟨k.pg,k.nx,k.lg,⟨k.pl.size,k.pl.fs++[⟨x,false,0,true⟩],k.pl.hand⟩,k.lk,k.tx,k.ix,k.la⟩
 |putl:kB k=true->0<=x.id/\x.id<k.pg->x.lsn=dX k x.id->(dV k.pl x).2=0->(aM k.la x.id).2=true->PutK k x ⟨k.pg,k.nx,k.lg,⟨k.pl.size,k.pl.fs++[⟨x,true,(aM k.la x.id).1.rc,true⟩],k.pl.hand⟩,k.lk,k.tx,k.ix,k.la.filter fun d=>decide (d.pg≠x.id)⟩
inductive Stp:Nat->Kn->Kn->Prop
 |begin {k:Kn}:kB k=true->(aY k.tx k.nx).2=0->Stp 1 k ⟨k.pg,k.nx+1,k.lg,k.pl,k.lk,(aY k.tx k.nx).1,k.ix,k.la⟩
 |fin {k:Kn} {e e':E}:AddOk k e e'->(e.kind=3\/e.kind=4\/e.kind=5)->kk k e->Stp 0 k (k.add e')
 |ckpt {k:Kn} {e e':E}:AddOk k e e'->e.kind=6->CkP k e.blob->Stp 1 k (k.add e')
 |change {k:Kn} {e e':E}:AddOk k e e'->e.kind=1->lO k e->exG k.lk.held e.tx e.c.pg e.c.sl->(aO k.pl (bh k.pl e')).2=0->Stp 1 k (k.set e')
 |undo {k:Kn} {e e':E}:AddOk k e e'->e.kind=2->lO k e->(aO k.pl (bh k.pl e')).2=0->Stp 0 k (k.set e')
 |undol {k:Kn} {e e':E} (u:Lk):AddOk k e e'->e.kind=2->lO k e->(aO k.pl (bh k.pl e')).2=0->(kB (k.set e')=true->LkP (k.set e') u)->Stp 0 k ⟨(k.set e').pg,(k.set e').nx,(k.set e').lg,(k.set e').pl,u,(k.set e').tx,(k.set e').ix,(k.set e').la⟩
 |wrt {k:Kn} {e e':E}:AddOk k e e'->e.kind=7->ua k e->Stp 0 k (k.wrt e')
 |lock {k:Kn} (u:Lk):LkP k u->Stp 0 k ⟨k.pg,k.nx,k.lg,k.pl,u,k.tx,k.ix,k.la⟩
 |save {k:Kn} (a:Int):(fq k.tx a).2=0->Stp 0 k ⟨k.pg,k.nx,k.lg,k.pl,k.lk,(fq k.tx a).1,k.ix,k.la⟩
 |back {k:Kn} (a b:Int):(ft k.tx a b).2=0->Stp 0 k ⟨k.pg,k.nx,k.lg,k.pl,k.lk,(ft k.tx a b).1,k.ix,k.la⟩
 |rem {k:Kn} (a:Int):al k.tx=true->0<=idT k.tx a->(QW k.tx a).n=0->Stp 0 k ⟨k.pg,k.nx,k.lg,k.pl,k.lk,bF k.tx a,k.ix,k.la⟩
 |pool {k:Kn} (p:Pl):SameF k.pl.fs p.fs->Stp 0 k ⟨k.pg,k.nx,k.lg,p,k.lk,k.tx,k.ix,k.la⟩
 |drop {k:Kn} (a:Int):(df k.pl a).2=0->Stp 0 k ⟨k.pg,k.nx,k.lg,(df k.pl a).1,k.lk,k.tx,k.ix,k.la⟩
 |force {k:Kn} (d:Int):k.lg.d<=d->(lgB k.lg=true->lgB ⟨k.lg.f,k.lg.es,d⟩=true)->Stp 0 k ⟨k.pg,k.nx,⟨k.lg.f,k.lg.es,d⟩,k.pl,k.lk,k.tx,k.ix,k.la⟩
inductive Str:Nat->Kn->Kn->Prop
 |refl {n:Nat} (k:Kn):Str n k k
 |step {n m:Nat} {k k1 k2:Kn}:Str n k k1->Stp m k1 k2->Str (n+m) k k2
def Str.one(h:Stp m k k'):Str m k k':=by
 have:=Str.step (Str.refl (n:=0) k) h;grind
def Str.mono (h:Str n k k') (hm:n<=m):Str m k k':=by
 induction h generalizing m with
 |refl k=>exact .refl k
 |@step n p k k1 k2 h1 h2 ih =>
   have:=ih (m:=m-p) vz;have:=Str.step this h2;rwa [JR vz] at this
def Str.trans(h:Str n a b)(g:Str m b c):Str (n+m) a c:=by
 induction g with
 |refl k=>exact h.mono vz
 |step h1 h2 ih=>rw[<-J6];exact(ih h).step h2
def Str.tr0(h:Str 0 a b)(g:Str n b c):Str n a c:=by have:=h.trans g;rwa [JV] at this
def Str.tr(h:Str n a b)(g:Str 0 b c):Str n a c:=h.trans g
structure Ev(x y:Lg):Prop where
 f:y.f=x.f
 d:x.d<=y.d
 pre:x.es <+: y.es
 ok:lgB x=true->lgB y=true
def Ev.refl(x:Lg):Ev x x:=⟨rfl,JO _,J2,fun h=>h⟩
def Ev.trans(a:Ev x y)(b:Ev y z):Ev x z:=⟨b.f.trans a.f,Int.le_trans a.d b.d,a.pre.trans b.pre,fun h=>b.ok (a.ok h)⟩
def Ev.len(a:Ev x y):x.es.length<=y.es.length:=a.pre.length_le
def AddOk.lgB{k:Kn}{e e':E}(h:AddOk k e e'):lgB (k.add e').lg=true:=by
 obtain⟨v,s,ho,hl,hn,_⟩:=h;have hv:=(dW v).2.2.1;exact yR (f:=k.lg.f) (d:=k.lg.d) hv hn (by rw[hl];unfold Lg.end_;omega) ho
def AddOk.ev(h:AddOk k e e'):Ev k.lg (k.add e').lg:=⟨rfl,JO _,List.prefix_append _ _,fun _=>h.lgB⟩
def Stp.ev(h:Stp n k k'):Ev k.lg k'.lg:=by
 cases h with
 |fin h _ _=>exact h.ev
 |ckpt h _ _=>exact h.ev
 |change h _ _ _ _=>exact h.ev
 |undo h _ _ _=>exact h.ev
 |undol _ h _ _ _ _=>exact h.ev
 |wrt h _ _=>exact h.ev
 |force d hd h=>exact⟨rfl,hd,J2,h⟩
 |_=>exact Ev.refl _
def Str.ev(h:Str n k k'):Ev k.lg k'.lg:=by
 induction h with
 |refl k=>exact Ev.refl _
 |step _ h2 ih=>exact ih.trans h2.ev
structure Rs where
 st:Int
 tx:Int
 pg:Int
 cell:Ce
 er:Int
@[go_sem] def Rs.d(r:Rs):List DV:=[.int .i64 r.st,.int .i64 r.tx,.int .i64 r.pg,.bool r.cell.set,.pv (.str r.cell.data),.int .i64 r.er]
def aJ(e:Int):Rs:=⟨5,0,0,Ce0,e⟩
@[go_sem] def krD(a:Kn×Rs):DV:=.tup [.agg a.1.d,.agg a.2.d]
def yX(hq:dY k e (k1,n1,e1))(h:e1=0):Ev k.lg k1.lg/\lgB k1.lg=true/\k1.lg.es.length=k.lg.es.length+1/\k1.pg=k.pg/\k1.pl=k.pl/\k1.lk=k.lk/\k1.la=k.la:=by
 obtain⟨e',ha,hk,_,hl⟩:=hq.2 h;dsimp only at hk hl;subst hk;exact⟨ha.ev,hl,by simp[Kn.add],rfl,rfl,rfl,rfl⟩
def ub(hq:dY k e (k1,n1,e1))(h:e1=0)(hk:e.kind=3\/e.kind=4\/e.kind=5)(hf:kk k e):Str 0 k k1:=by
 obtain⟨e',ha,hk1,_,hl⟩:=hq.2 h;dsimp only at hk1;subst hk1;exact .one (.fin ha hk hf)
def km{a:Int}{i:Nat}(h:idT l a=i):QW l a=l.getD i Tx0:=by unfold QW;rw[h];rfl
def dA(e:Int):VCalls prog 64 [.int .i64 e] [] (Ret (.agg (aJ e).d)):=by
 refine dd Tryz.func64 ?_;refine rn F ?_;rfl
def qB(k:Kn)(tx pg sl:Int):Prop:=∀n∈(QW k.tx tx).l,(ah k.lg n).2=0->¬((ah k.lg n).1.c.pg=pg/\(ah k.lg n).1.c.sl=sl)
def Hm(k:Kn)(h:k.sm)(tx pg sl:Int)(hi:0<=idT k.tx tx):VCalls prog 220 [.agg k.d,.int .i64 tx,.agg [.int .i64 pg,.int .i64 sl]] [] (QM boD fun b=>b=false->qB k tx pg sl):=by
 refine dd Tryz.func220 ?_;obtain⟨h1,h2,h3,h4,h5,h6⟩:=h;have c2:=gF k.tx (Jc h4.1 vj) tx;have c5:=fun n=>lJ k.lg vz n;rcases QB k.tx tx with hn|⟨i,hil,hid,_⟩
 ·omega
 rw[hid] at c2;have hg:=dx k.tx i hil;have ht:(k.tx.getD i Tx0).l.length<=100000:=by rw[Qd _ _ hil];exact(h4.2 _ (Ji hil)).1
 unfold qB;rw[show QW k.tx tx=k.tx.getD i Tx0 by unfold QW;rw[hid];rfl];have F:=@hg;refine rn F ?_
 repeat' (first|with_reducible exact⟨⟩|refine vp F (c2) ?_|(refine Qf (id:=1) [0,1,2,3,4] [⟨[8],[],5,[0,1,2],[6,7]⟩,⟨[8],[8],9,[],[]⟩] vw vw ?_;refine rn F ?_))
 generalize k.tx.getD i Tx0=t at *;refine Qj (fun s:Pass t.l (fun n=>¬((ah k.lg n).2=0->¬((ah k.lg n).1.c.pg=pg/\(ah k.lg n).1.c.sl=sl)))=>⟨55,0,[(8,.int .i64 s.i),(7,.ptr 2 0),(5,.ptr 1 0),(3,.ptr 0 0)],[⟨39,true,k.d⟩,⟨88,true,[.int .i64 pg,.int .i64 sl]⟩,⟨64,true,t.d⟩]⟩) (fun s=>t.l.length-s.i) (Pass.start t.l _) (gc [0,1,2]) ?_;intro s;have hj:=s.hi;have hx:=fun h:s.i<t.l.length=>bL t.l s.i h;have hN:=fun(h:s.i<t.l.length) (q:(ah k.lg (t.l.getD s.i 0)).2=0->¬((ah k.lg (t.l.getD s.i 0)).1.c.pg=pg/\(ah k.lg (t.l.getD s.i 0)).1.c.sl=sl))=>s.next h (by rw[Qd t.l s.i h] at q;exact fun w=>w q)
 have hA:=fun(h:¬s.i<t.l.length) n hn=>Classical.not_not.1 (s.all h n hn);generalize hgE:ah k.lg (t.l.getD s.i 0)=g at *;have c6:=c5 (t.l.getD s.i 0);rw[hgE] at c6;have F:=@hx;refine rn F ?_
 repeat' (first|with_reducible exact⟨⟩|(refine sG F ?_ ?_<;>intro hZ)|(refine sB F ?_ ?_<;>intro hZ)|refine vp F (c6) ?_|(refine Qf (id:=5) [0,1,2,3,4,5,6] [⟨[11],[],7,[0,2,3,4,5],[8,9,10]⟩,⟨[11],[11],12,[10],[]⟩,⟨[],[],13,[],[]⟩] vw vw ?_;refine rn F ?_))
 all_goals first|exact⟨rfl,rfl,true,rfl,fun h=>by cases h⟩|exact⟨rfl,rfl,false,rfl,fun _=>hA vz⟩|exact⟨s.next vz (by rw[<-Qd t.l s.i vz 0,hgE];exact fun w=>w vz),by show t.l.length-(s.i+1)<t.l.length-s.i;omega,(gc [0,1,2])⟩|skip
def uc(l m:List Tx)(h:l.map (·.id)=m.map (·.id))(a:Int):idT l a=idT m a:=by
 have e:∀l:List Tx,idT l a=bA (l.map (·.id)) (fun x=>x==a):=fun l=>by
  unfold idT bA;rw[J7,JW];rfl
 rw[e,e,h]
def Hn(h:∀t∈l,t.id≠a):idT l a<0:=by
 rcases QB l a with hn|⟨i,hi,_,he⟩
 ·omega
 ·exact absurd he (h _ (Ji hi))
def ud(l:List Tx)(a:Int):idT (bF l a) a<0:=Hn fun t ht=>by
 unfold bF cI at ht;have:=(J1.1 ht).2;simpa using this
def qC(h:∀a pg sl,a≠tx->exG k.lk.held a pg sl->exG u.held a pg sl)(hi:idT k.tx tx<0):LkP k u:=fun a pg sl hn he=>h a pg sl (fun q=>by subst q;have:=hn.1;omega) he
def yY(hq:dY k e (k1,n1,e1))(h:e1=0)(hk:e.kind=3\/e.kind=5)(hi:0<=idT k.tx e.tx):idT k1.tx e.tx<0:=by
 obtain⟨e',⟨v,s,ho,_,_,hn,_⟩,hk1,_,_⟩:=hq.2 h;dsimp only at hk1;subst hk1;show idT (QA k.tx e').1 e.tx<0
 have hk':e'.kind=3\/e'.kind=5:=by rw[s.1];exact hk
 have ht:e'.tx≠0:=fun q=>by
  unfold E.okB E.kindB txB at ho;simp only[Jb] at ho;have h2:=ho.2;rcases hk' with g|g<;>rw[g] at h2<;>simp[q] at h2
 have h1:al k.tx=true:=by
  unfold QA at hn;split at hn
  ·simp at hn
  ·rename_i q;simpa using q
 have e0:(QA k.tx e').1=bF k.tx e'.tx:=by
  unfold QA at hn |-;rw[if_neg (by rw[h1];decide),if_neg (by rw[ho];decide),if_neg ht] at hn |-;rw[if_neg (by rw[s.2.1];omega)] at hn |-;unfold ir at hn |-;split at hn
  ·simp at hn
  ·rename_i q;rw[if_neg q,if_pos hk']
 rw[e0,s.2.1];exact ud _ _
def Ho(k:Kn)(a:Kn×Rs):Prop:=a.1.sm/\(a.2.st=1\/a.2.st=5)/\(a.2.st≠5->Str 0 k a.1)
def Hp(k:Kn)(h:k.sm)(tx:Int)(hi:0<=idT k.tx tx)(hst:(QW k.tx tx).st≠3)(htb:al k.tx=true):VCalls prog 175 [.agg k.d,.int .i64 tx] [] (QM krD (Ho k)):=by
 refine dk Tryz.func175 ?_;have h':=h;obtain⟨h1,h2,h3,h4,h5,h6⟩:=h;have c2:=gF k.tx (Jc h4.1 vj) tx;have c3:=tB k.tx (Jc h4.1 vj) tx;have c4:=kg k h' ⟨0,3,tx,0,0,0,Ch0,[]⟩;rcases QB k.tx tx with hn|⟨i,hil,hid,_⟩
 ·omega
 rw[hid] at c2;have hg:=dx k.tx i hil;have F:=@hg;refine rn F ?_
 repeat' (first|with_reducible exact⟨⟩|(refine sB F ?_ ?_<;>intro hZ)|refine vp F (c2) ?_|refine vp F (c3) ?_|(refine Qs (c4) rfl ?_;rintro⟨k1,n1,e1⟩ hq;refine rn F ?_)|refine vp F (dA _) ?_|(refine Qs (qy k1 hq.1 _) rfl ?_;rintro d hd;refine rn F ?_)|(refine Qs (qj k.lk vz tx) rfl ?_;rintro u hu;refine rn F ?_)|(refine Qs (qj k1.lk (Jc hq.1.2.2.1 vj) tx) rfl ?_;rintro u hu;refine rn F ?_)|(refine Qf (id:=2) [0,1,2,3,4] [⟨[],[],5,[0,1,2],[6,7,8,9]⟩] vw vw ?_;refine rn F ?_)|(refine Qf (id:=6) [0,1] [⟨[],[],2,[0],[]⟩,⟨[],[],3,[1],[]⟩,⟨[],[],4,[],[]⟩] vw vw ?_;refine rn F ?_))
 ·exact⟨rfl,rfl,(⟨k.pg,k.nx,k.lg,k.pl,u,bF k.tx tx,k.ix,k.la⟩,⟨1,0,0,Ce0,0⟩),rfl,⟨h1,h2,Jc hu.1 h3,h4.rem _,h5,h6⟩,.inl rfl,fun _=>(Str.one (.rem tx htb hi (by rw[km hid];omega))).step (.lock u (qC hu.2 (ud _ _)))⟩
 ·exact⟨rfl,rfl,(k,aJ e1),rfl,h',.inr rfl,fun h=>absurd rfl h⟩
 ·have q:=ub hq vz (.inl rfl) ⟨hi,fun _=>hst,fun h=>by simp at h⟩;have qn:=yY hq vz (.inl rfl) (show(0:Int)<=idT k.tx tx from hi);obtain⟨r1,r2,r3,r4,r5,r6⟩:=hq.1;exact⟨rfl,rfl,(⟨k1.pg,k1.nx,⟨k1.lg.f,k1.lg.es,d⟩,k1.pl,u,k1.tx,k1.ix,k1.la⟩,⟨1,0,0,Ce0,0⟩),rfl,⟨r1,r2,Jc hu.1 r3,r4,r5,r6⟩,.inl rfl,fun _=>(q.step (.force d hd.1 hd.2.1)).step (.lock u (qC hu.2 qn))⟩
def lP:0<=idT l a ↔ a∈l.map (·.id):=by
 unfold idT bA;grind
def qD(t:Tx):(QD t).id=t.id:=by unfold QD;split<;>rfl
def ue(t:Tx)(e:E):(aX t e).id=t.id:=by unfold aX;split;rfl;split<;>rfl
def nS(h:(QA l e).2=0)(hk:e.kind≠3/\e.kind≠5):(QA l e).1.map (·.id)=l.map (·.id):=by
 unfold QA at h |-;split at h
 ·simp at h
 rename_i q1;split at h
 ·simp at h
 rename_i q2;split at h
 ·rename_i q3;rw[if_neg q1,if_neg q2,if_pos q3]
 rename_i q3;split at h
 ·simp at h
 rename_i q4;rw[if_neg q1,if_neg q2,if_neg q3,if_neg q4];rcases QB l e.tx with hn|⟨i,hi,hid,_⟩
 ·omega
 rw[hid,Jh] at h |-;unfold ir at h |-;split at h
 ·simp at h
 rename_i q5;split at h
 ·rename_i q6;omega
 rename_i q6;rw[if_neg q5,if_neg q6];dsimp only;rw[JT,qD,ue,Qd l i hi];have:l[i].id=(l.map (·.id))[i]'(by simpa using hi):=by rw[JX]
 rw[this,JG]
def Hq(h:(QA l e).2=0)(hk:e.kind≠3/\e.kind≠5)(ha:0<=idT l a):0<=idT (QA l e).1 a:=by
 rw[lP] at ha |-;rw[nS h hk];exact ha
def qE(h:(QA l e).2=0)(ht:e.tx=0):(QA l e).1=l:=by
 unfold QA at h |-;grind
def yZ(hq:dY k e (k1,n1,e1))(h:e1=0)(hk:e.kind≠3/\e.kind≠5)(ha:0<=idT k.tx a):0<=idT k1.tx a:=by
 obtain⟨e',⟨v,s,_,_,_,hn,_⟩,hk1,_,_⟩:=hq.2 h;dsimp only at hk1;subst hk1;exact Hq hn (by rw[s.1];exact hk) ha
def Hr(hq:dY k e (k1,n1,e1))(h:e1=0)(ht:e.tx=0):k1.tx=k.tx:=by
 obtain⟨e',⟨v,s,_,_,_,hn,_⟩,hk1,_,_⟩:=hq.2 h;dsimp only at hk1;subst hk1;exact qE hn (by rw[s.2.1];exact ht)
def nT(h:(QA l e).2=0):al l=true/\e.okB=true:=by
 unfold QA at h;grind
def nU(h:(QA l e).2=0)(ht:e.tx≠0):∃i,∃hi:i<l.length,idT l e.tx=i/\l[i].id=e.tx/\e.ptx=l[i].n/\(e.kind=2->e.ref∈l[i].l) /\
 (((e.kind=3\/e.kind=5)/\(QA l e).1=bF l e.tx)\/((e.kind=1\/e.kind=2\/e.kind=4)/\(QA l e).1=l.set i (QD (aX l[i] e)))):=by
 obtain⟨h1,h2⟩:=nT h;have hk:=nG h2 ht;unfold QA at h |-;rw[if_neg (by rw[h1];decide),if_neg (by rw[h2];decide),if_neg ht] at h |-;rcases QB l e.tx with hn|⟨i,hi,hid,he⟩
 ·rw[if_pos vz] at h;simp at h
 rw[if_neg vz] at h |-;rw[hid,Jh,Qd l i hi] at h |-;unfold ir at h |-;grind
def y0(h:(QA l e).2=0)(hk:e.kind=1\/e.kind=2\/e.kind=4)(h0:e.tx≠0):0<=idT l e.tx/\0<=idT (QA l e).1 e.tx/\QW (QA l e).1 e.tx=QD (aX (QW l e.tx) e):=by
 obtain⟨i,hi,q1,q2,_,_,q3⟩:=nU h h0;have h2:=uc _ _ (nS h vz) e.tx;rcases q3 with⟨q3,_⟩|⟨_,q3⟩
 ·omega
 refine⟨vz,vz,?_⟩;unfold QW;grind
def za{e:E}(h:e.okB=true)(hk:e.kind=1\/e.kind=2\/e.kind=3\/e.kind=4\/e.kind=5):e.tx≠0:=fun q=>by
 unfold E.okB E.kindB txB at h;simp only[Jb] at h;have h2:=h.2;rcases hk with g|g|g|g|g<;>rw[g] at h2<;>simp[q] at h2
def zb(hq:dY k e (k1,n1,e1))(h:e1=0)(hk:e.kind=4):(QW k1.tx e.tx).st=3:=by
 obtain⟨e',⟨v,s,ho,_,_,hn,_⟩,hk1,_,_⟩:=hq.2 h;dsimp only at hk1;subst hk1;have hk':e'.kind=4:=by rw[s.1];exact hk
 show(QW (QA k.tx e').1 e.tx).st=3
 rw[<-s.2.1,(y0 hn vz (za ho vz)).2.2]
 have:(aX (QW k.tx e'.tx) e').st=3:=by
  unfold aX;rw[if_neg vz,if_neg vz]
 unfold QD;grind
def zc(h:lgB x=true)(he:e∈x.es):ah x e.lsn=(e,0):=by
 obtain⟨i,hi,rfl⟩:=Jm.1 he
 have h1:(x.es.getD i E0).lsn=x.f+i:=by
  unfold lgB at h;rw[Jb,Jl] at h;have:=h.2 i (Jo.2 hi);unfold lgC at this;simp at this;simpa using this.1
 rw[Qd _ _ hi] at h1;unfold ah;rw[if_neg (by rw[h];decide),if_neg (by unfold Lg.end_;omega),h1,show(x.f+i-x.f).toNat=i by omega,Qd _ _ hi]
def zd(h:∀ a p s,¬ (a=tx/\p=pg/\s=sl)->exG v.held a p s->exG u.held a p s)(hv:lgB k.lg=true)(h3:(QW k.tx tx).st=3)(hp:qB k tx pg sl):LkP ⟨k.pg,k.nx,k.lg,k.pl,v,k.tx,k.ix,k.la⟩ u:=fun a p s hn he=>h a p s (fun⟨q1,q2,q3⟩=>by
 subst q1 q2 q3;obtain⟨_,x,x1,x2,x3,x4,x5,x6⟩:=hn;dsimp only at x1 x6;rcases x6 with x6|x6
 ·exact x6 h3
 ·have:=hp x.lsn x6;rw[zc hv x1] at this
  exact this rfl ⟨x4,x5⟩) he
def Hs(k:Kn)(st:Int)(a:Kn×Rs):Prop:=a.1.sm/\(a.2.st=st\/a.2.st=5)/\(a.2.st≠5->Str 0 k a.1)
def ze(k:Kn)(h:k.sm)(tx st:Int)(hi:0<=idT k.tx tx)(hst:(QW k.tx tx).st≠3)(htb:al k.tx=true):VCalls prog 176 [.agg k.d,.int .i64 tx,.int .i64 st] [] (QM krD (Hs k st)):=by
 refine dk Tryz.func176 ?_;have h':=h;obtain⟨h1,h2,h3,h4,h5,h6⟩:=h;have c1:=GT k.lk vz tx;have c2:=gF k.tx (Jc h4.1 vj) tx;have c3:=tB k.tx (Jc h4.1 vj) tx;have c4:=fun(u:Lk) (hu:u.sum<=k.lk.sum)=>kg ⟨k.pg,k.nx,k.lg,k.pl,u,k.tx,k.ix,k.la⟩ ⟨h1,h2,Jc hu h3,h4,h5,h6⟩ ⟨0,4,tx,0,0,0,Ch0,[]⟩;rcases QB k.tx tx with hn|⟨i,hil,hid,_⟩
 ·omega
 rw[hid] at c2;have hg:=dx k.tx i hil;have F:=@hg;refine rn F ?_
 repeat' (first|with_reducible exact⟨⟩|(refine sB F ?_ ?_<;>intro hZ)|(refine Qs (c1) rfl ?_;rintro u hu;refine rn F ?_)|refine vp F (c2) ?_|refine vp F (c3) ?_|(refine Qs (c4 u hu.1) rfl ?_;rintro⟨k1,n1,e1⟩ hq;refine rn F ?_)|refine vp F (dA _) ?_|(refine Qs (qj u (Jc hu.1 (Jc h3 vj)) tx) rfl ?_;rintro u2 hu2;refine rn F ?_)|(refine Qf (id:=3) [0,1,2,3,4] [⟨[],[],5,[0,1,2],[6,7,8,9]⟩] vw vw ?_;refine rn F ?_)|(refine Qf (id:=9) [0,1] [⟨[],[],2,[0],[]⟩,⟨[],[],3,[1],[]⟩,⟨[],[],4,[],[]⟩] vw vw ?_;refine rn F ?_))
 ·exact⟨rfl,rfl,(⟨k.pg,k.nx,k.lg,k.pl,u2,bF k.tx tx,k.ix,k.la⟩,⟨st,0,0,Ce0,0⟩),rfl,⟨h1,h2,Jc hu2.1 (Jc hu.1 h3),h4.rem _,h5,h6⟩,.inl rfl,fun _=>((Str.one (.lock u (.of hu.2))).step (.rem tx htb hi (by dsimp only;rw[km hid];omega))).step (.lock u2 (qC hu2.2 (ud _ _)))⟩
 ·exact⟨rfl,rfl,(k,aJ e1),rfl,h',.inr rfl,fun h=>absurd rfl h⟩
 have he1:e1=0:=vz;obtain⟨q1,q2,q3,q4,q5,q6,q7⟩:=yX hq he1;have qs:=ub hq he1 (.inr (.inl rfl)) ⟨hi,fun _=>hst,fun h=>by simp at h⟩;have hst:=yZ hq he1 ⟨vv,vv⟩ hi;have hs3:=zb hq he1 rfl;have hlv:=hq.2 he1;have hlv1:lgB k1.lg=true:=q2;obtain⟨r1,r2,r3,r4,r5,r6⟩:=hq.1;dsimp only at q1 qs hst r1 r2 r3 r4 r5 r6;have hkl:k1.lk.held.length<=1024:=by unfold Lk.sum at r3;omega
 refine Qj (fun s:{s:Nat×Lk // s.1<=k1.lk.held.length/\s.2.sum<=1024/\Str 0 k1 ⟨k1.pg,k1.nx,k1.lg,k1.pl,s.2,k1.tx,k1.ix,k1.la⟩}=>⟨95,0,[(12,.int .i64 s.1.1),(11,.pv (.sl (fz aj k1.lk.held))),(8,.ptr 2 0),(7,.ptr 1 0),(6,.ptr 0 0),(2,.int .i64 st),(1,.int .i64 tx)],[⟨39,true,[.int .i64 0,.int .i64 0,.int .i64 0,.pv (.slc []),.int .i64 0,.int .i64 0,.pv (.slc []),.int .i64 0,.pv (.slc []),.pv (.slc []),.pv (.slc []),.pv (.slc []),.pv (.slc [])]⟩,⟨125,true,[.int .i64 0,.int .i64 0,.int .i64 0,.bool false,.pv (.str []),.int .i64 0]⟩,⟨39,true,Kn.d ⟨k1.pg,k1.nx,k1.lg,k1.pl,s.1.2,k1.tx,k1.ix,k1.la⟩⟩]⟩) (fun s=>k1.lk.held.length-s.1.1) ⟨(0,k1.lk),Jg _,r3,Str.refl _⟩ (gc [1,2,3]) ?_;rintro⟨⟨j,u3⟩,hj,hu3,hS⟩;dsimp only at hj hu3 hS |-;have hx:=fun h:j<k1.lk.held.length=>bM k1.lk.held j h;have d1:=Hm ⟨k1.pg,k1.nx,k1.lg,k1.pl,u3,k1.tx,k1.ix,k1.la⟩ ⟨r1,r2,hu3,r4,r5,r6⟩ tx;have d2:=yB u3 vz tx;have F:=@hx;refine rn F ?_
 repeat' (first|with_reducible exact⟨⟩|(refine sG F ?_ ?_<;>intro hZ)|(refine sB F ?_ ?_<;>intro hZ)|(refine Qs (d1 _ _ hst) rfl ?_;rintro b hb;refine rn F ?_)|(refine Qs (d2 _ _) rfl ?_;rintro u4 hu4;refine rn F ?_)|(refine Qf (id:=14) [0,1,2,3,4,5,6,7,8,9,10,11,12,13,14] [⟨[],[],15,[0,1,2,3,4,5,6,10,11,12,13],[16,17]⟩] vw vw ?_;refine rn F ?_)|(refine Qf (id:=15) [0,1,2,3,4,5,6,7] [⟨[],[],8,[0,3,4,5,6],[9]⟩,⟨[],[],10,[],[]⟩] vw vw ?_;refine rn F ?_))
 all_goals first|exact⟨⟨(j+1,u3),vu,hu3,hS⟩,vu,(gc [0,1,2])⟩|exact⟨⟨(j+1,u4),vu,Jc hu4.1 hu3,hS.step (.lock u4 (zd hu4.2 hlv1 hs3 (hb (by first|assumption|rfl|simp_all))))⟩,vu,(gc [0,1,2])⟩|exact⟨rfl,rfl,(⟨k1.pg,k1.nx,k1.lg,k1.pl,u3,k1.tx,k1.ix,k1.la⟩,⟨st,0,0,Ce0,0⟩),rfl,⟨r1,r2,hu3,r4,r5,r6⟩,.inl rfl,fun _=>((Str.one (.lock u (.of hu.2))).trans qs).trans hS⟩|skip
section
attribute [local go_sem] ba
def uf(x:Pg)(i:Nat)(h:i<16)(c:Ce):x.d.take (2+i*2)++[.pv (.lit (.bool c.set)),.pv (.str c.data)]++x.d.drop (2+i*2+2)=(x.setc i c).d:=Gl x i h c
def qF{e:E}(h:e.okB=true)(hk:e.kind=1\/e.kind=2):0<=e.c.sl/\e.c.sl<16:=by
 unfold E.okB at h;simp only[Jb] at h;have h2:=h.2;unfold E.kindB Ch.okB at h2;grind
def Ht(hq:dY k e (k1,n1,e1))(h:e1=0)(hk:e.kind=1\/e.kind=2):0<=e.c.sl/\e.c.sl<16:=by
 obtain⟨e',⟨v,s,ho,_⟩,_⟩:=hq.2 h;have:=qF ho (by rw[s.1];exact hk);rw[s.2.2.2.1] at this;exact this
def Hu(p:Pl)(x:Pg)(h:p.fs.length<=64):(aO p x).1.fs.length<=64:=by
 unfold aO;repeat' split
 all_goals first|exact Jg _|simpa using h
@[go_sem] def kiD(a:Kn×Int):DV:=.tup [.agg a.1.d,.int .i64 a.2]
def Hv(k:Kn)(e:E)(a:Kn×Int):Prop:=a.1.sm/\(a.2=0->∃e',AddOk k e e'/\(aO k.pl (bh k.pl e')).2=0/\a.1=k.set e')/\(a.2≠0->a.1=k)
def zf(k:Kn)(h:k.sm)(e:E)(hk:e.kind=1\/e.kind=2):VCalls prog 170 [.agg k.d,.agg e.d] [] (QM kiD (Hv k e)):=by
 refine dk Tryz.func170 ?_;have h':=h;obtain⟨h1,h2,h3,h4,h5,h6⟩:=h;have c1:=kg k h' e;have c2:=nO k.pl vz e.c.pg;have c3:=fun x=>G3 k.pl vz x;have hul:=fun x=>Hu k.pl x h2;refine rn F ?_;refine Qs c1 rfl ?_;rintro⟨k1,n1,e1⟩ hq;by_cases he1:e1=0
 ·subst he1;obtain⟨s1,s2⟩:=Ht hq rfl hk;obtain⟨i,hi⟩:∃i:Nat,e.c.sl=i:=⟨e.c.sl.toNat,vz⟩
  have hce:=fun x=>uf x i vz e.c.a;have hi16:i<16:=vz;obtain⟨r1,r2,r3,r4,r5,r6⟩:=hq.1;obtain⟨e',ha,hk1,hn1,hl1⟩:=hq.2 rfl;dsimp only at hk1 hn1
  have hsp:bh k.pl e'=⟨((aN k.pl e.c.pg).1.setc i e.c.a).id,n1,((aN k.pl e.c.pg).1.setc i e.c.a).cel⟩:=by
   unfold bh;rw[ha.2.1.2.2.2.1,hi,Jh,<-hn1]
  have hS:∀w,aO k.pl ⟨((aN k.pl e.c.pg).1.setc i e.c.a).id,n1,((aN k.pl e.c.pg).1.setc i e.c.a).cel⟩=w->w.2=0->(aO k.pl (bh k.pl e')).2=0/\(⟨k1.pg,k1.nx,k1.lg,w.1,k1.lk,k1.tx,k1.ix,k1.la⟩:Kn)=k.set e':=by
   rintro w rfl h0;rw[<-hsp] at h0 |-;subst hk1;exact⟨h0,rfl⟩
  dsimp only at r1 r2 r3 r4 r5 r6;have hw:=hul ⟨((aN k.pl e.c.pg).1.setc i e.c.a).id,n1,((aN k.pl e.c.pg).1.setc i e.c.a).cel⟩;have F:=(Ja @hi @hce)
  refine rn F ?_
  repeat' (first|with_reducible exact⟨⟩|(refine sB F ?_ ?_<;>intro hZ)|refine vp F (c2) ?_|refine vp F (c3 _) ?_)
  all_goals generalize hww:aO k.pl ⟨((aN k.pl e.c.pg).1.setc i e.c.a).id,n1,((aN k.pl e.c.pg).1.setc i e.c.a).cel⟩=w at *
  ·exact⟨rfl,rfl,(k,w.2),rfl,h',fun h=>absurd h vq,fun _=>rfl⟩
  ·exact⟨rfl,rfl,(⟨k1.pg,k1.nx,k1.lg,w.1,k1.lk,k1.tx,k1.ix,k1.la⟩,0),rfl,⟨r1,hw,r3,r4,r5,r6⟩,fun _=>⟨e',ha,hS w rfl vz⟩,fun h=>absurd rfl h⟩
 ·skip
  have F:=@he1;refine rn F ?_;exact⟨rfl,rfl,(k,e1),rfl,h',fun h=>absurd h he1,fun _=>rfl⟩
structure Ac where
 kind:Int
 pg:Int
 sl:Int
 data:List UInt8
@[go_sem] def Ac.d(a:Ac):List DV:=[.int .i64 a.kind,.int .i64 a.pg,.int .i64 a.sl,.pv (.str a.data)]
def Hw(p:Pl)(a:Int)(h:p.fs.length<=64):(kd p a).fs.length<=64:=by
 unfold kd;grind
def Hx(p:Pl)(a:Int):SameF p.fs (kd p a).fs:=by
 unfold kd;split
 ·exact SameF.refl _
 ·exact SameF.set _ _ _
def zg(hp:plB p=true)(h:(aN p a).2=false):idF p.fs a<0:=by
 unfold aN bg at h;grind
def Hy(k:Kn)(a:Ac)(r:Kn×Rs):Prop:=r.1.sm/\(r.2.st=3->r.1=k/\r.2.pg=a.pg/\idF k.pl.fs a.pg<0)/\(r.2.st=1\/r.2.st=3\/r.2.st=5)/\(r.2.st=1->Str 1 k r.1)
def Hz(k:Kn)(h:k.sm)(hv:VK k)(tx:Int)(hid:0<=idT k.tx tx)(hst:(QW k.tx tx).st=1)(a:Ac)(ha:0<=a.sl/\a.sl<16)(hex:a.kind≠1->exG k.lk.held tx a.pg a.sl):VCalls prog 181 [.agg k.d,.int .i64 tx,.agg a.d] [] (QM krD (Hy k a)):=by
 refine dk Tryz.func181 ?_;have h':=h;obtain⟨h1,h2,h3,h4,h5,h6⟩:=h;have c1:=nO k.pl vz a.pg;have c2:=G1 k.pl vz a.pg;have hn:=zg (a:=a.pg) hv.2.2.2.1;have hul:=Hw k.pl a.pg h2;have c3:=fun c=>zf k h' ⟨0,1,tx,0,0,0,c,[]⟩ (.inl rfl);obtain⟨i,hi⟩:∃i:Nat,a.sl=i:=⟨a.sl.toNat,vz⟩
 have hi16:i<16:=vz;have hus:=Hx k.pl a.pg;generalize hgg:aN k.pl a.pg=g at *;have hce:=qb g.1 i hi16;generalize kd k.pl a.pg=up at *;have F:=(Ja @hi @hce)
 refine rn F ?_
 repeat' (first|with_reducible exact⟨⟩|(refine sB F ?_ ?_<;>intro hZ)|refine vp F (c1) ?_|refine vp F (c2) ?_|(refine Qs (c3 ⟨_,_,⟨_,_⟩,⟨_,_⟩⟩) rfl ?_;rintro⟨k1,e1⟩ hq;refine rn F ?_)|refine vp F (dA _) ?_|(refine Qf (id:=3) [0,1,2,3] [⟨[],[],4,[1,2,3],[]⟩,⟨[],[],5,[],[]⟩] vw vw ?_;refine rn F ?_)|(refine Qf (id:=6) [0,1,2,3,4,5,6] [⟨[],[],7,[1,2,3,4,5,6],[]⟩,⟨[],[],8,[],[]⟩] vw vw ?_;refine rn F ?_)|(refine Qf (id:=7) [0,1,2,3,4,5,6,7,8,9] [⟨[10],[10],11,[],[]⟩] vw vw ?_;refine rn F ?_)|(refine Qf (id:=12) [0,1] [⟨[],[],2,[0],[]⟩,⟨[],[],3,[1],[]⟩,⟨[],[],4,[],[]⟩] vw vw ?_;refine rn F ?_))
 all_goals first|exact⟨rfl,rfl,(k,⟨3,0,a.pg,Ce0,0⟩),rfl,h',fun _=>⟨rfl,rfl,hn wy⟩,.inr (.inl rfl),fun h=>by simp at h⟩|exact⟨rfl,rfl,(⟨k.pg,k.nx,k.lg,up,k.lk,k.tx,k.ix,k.la⟩,⟨1,0,0,g.1.cel i,0⟩),rfl,⟨h1,hul,h3,h4,h5,h6⟩,fun h=>by simp at h,.inl rfl,fun _=>(Str.one (.pool up hus)).mono vz⟩|exact⟨rfl,rfl,(k,aJ e1),rfl,h',fun h=>by simp[aJ] at h,.inr (.inr rfl),fun h=>by simp[aJ] at h⟩|skip
 all_goals
  obtain⟨e',q1,q2,q3⟩:=hq.2.1 vu;dsimp only at q3
  exact⟨rfl,rfl,(k1,⟨1,0,0,Ce0,0⟩),rfl,hq.1,fun h=>by simp at h,.inl rfl,fun _=>by
   dsimp only;rw[q3]
   exact .one (.change q1 rfl ⟨hid,fun _=>hst,fun h=>by simp at h,by dsimp only; rw[hgg]; first | assumption | simp_all,by dsimp only; rw[hgg]; rfl⟩ (by have hh:=hex wz; first | exact(hi▸hh) | (rw[hi] at hh; exact hh)) q2)⟩
end
def HA(a b c a' b' c':Int)(d d':List UInt8):QZ [.pv (.lit (.int .i64 a)),.pv (.lit (.int .i64 b)),.pv (.lit (.int .i64 c)),.pv (.str d)] [.pv (.lit (.int .i64 a')),.pv (.lit (.int .i64 b')),.pv (.lit (.int .i64 c')),.pv (.str d')] [(0,1),(1,1),(2,1),(3,2)]=some (decide (a=a')&&decide (b=b')&&decide (c=c')&&decide (d=d')):=by simp[QZ,bK,Bool.beq_eq_decide_eq,Bool.and_assoc]
def zh(k:Kn)(a:Ac)(e:Int):Prop:=e=0->(1<=a.kind/\a.kind<=7)/\(a.kind<=3->0<=a.sl/\a.sl<16)
def HB(k:Kn)(a:Ac):VCalls prog 218 [.agg k.d,.agg a.d] [] (QM inD (zh k a)):=by
 refine dk Tryz.func218 ?_;unfold zh;have F:=@HA;refine rn F ?_
 repeat' (first|with_reducible exact⟨⟩|(refine sG F ?_ ?_<;>intro hZ)|(refine sB F ?_ ?_<;>intro hZ)|(refine Qf (id:=9) [0,1,2,3,4] [⟨[],[],5,[2,3],[6]⟩,⟨[],[],7,[],[]⟩] vw vw ?_;refine rn F ?_))
 all_goals first|exact⟨rfl,rfl,_,rfl,fun h=>absurd h vj⟩|exact⟨rfl,rfl,0,rfl,fun _=>⟨⟨vz,vz⟩,fun _=>⟨vz,vz⟩⟩⟩|skip
@[go_sem] def gbD(a:Gr×Bool):DV:=.tup [.agg a.1.d,.bool a.2]
def zi(tx:Int)(a:Ac):VCalls prog 179 [.int .i64 tx,.agg a.d] [] (QM gbD fun r=>(a.kind=2\/a.kind=3)->r.1=⟨tx,a.pg,a.sl,2⟩):=by
 refine dd Tryz.func179 ?_;refine rn F ?_
 repeat' (first|with_reducible exact⟨⟩|(refine sB F ?_ ?_<;>intro hZ))
 all_goals first|exact⟨rfl,rfl,(⟨_,_,_,_⟩,_),rfl,fun _=>rfl⟩|exact⟨rfl,rfl,(⟨_,_,_,_⟩,_),rfl,fun h=>by omega⟩|skip
def zj(k:Kn)(tx:Int)(a:Ac)(e:Int):Prop:=e=0->VK k/\(0<=idT k.tx tx/\(QW k.tx tx).st=1)/\(1<=a.kind/\a.kind<=7)/\(a.kind<=3->0<=a.sl/\a.sl<16)
def HC(k:Kn)(h:k.sm)(tx:Int)(a:Ac):VCalls prog 174 [.agg k.d,.int .i64 tx,.agg a.d] [] (QM inD (zj k tx a)):=by
 refine dk Tryz.func174 ?_;have c1:=lM k h;obtain⟨h1,h2,h3,h4,h5,h6⟩:=h;have c2:=gF k.tx (Jc h4.1 vj) tx;have c3:=HB k a;have c4:=qi k.lk vz tx;have c5:=zi tx a;unfold zj;rcases QB k.tx tx with hn|⟨i,hil,hid,_⟩
 ·rw [hn] at c2;refine rn F ?_
  repeat' (first|with_reducible exact⟨⟩|(refine sB F ?_ ?_<;>intro hZ)|(refine Qs (c1) rfl ?_;rintro b hb;refine rn F ?_)|refine vp F (c2) ?_)
  all_goals exact⟨rfl,rfl,_,rfl,fun h=>absurd h vj⟩
 rw[hid] at c2;have hg:=dx k.tx i hil;have hta:=km hid;have F:=(Ja @hg @tO)
 refine rn F ?_
 repeat' (first|with_reducible exact⟨⟩|(refine sG F ?_ ?_<;>intro hZ)|(refine sB F ?_ ?_<;>intro hZ)|(refine Qs (c1) rfl ?_;rintro b hb;refine rn F ?_)|refine vp F (c2) ?_|(refine Qs (c3) rfl ?_;rintro e3 he3;refine rn F ?_)|(refine Qs (c4) rfl ?_;rintro⟨w,ws⟩ -;refine rn F ?_)|(refine Qs (c5) rfl ?_;rintro⟨g,nd⟩ -;refine rn F ?_))
 all_goals first|exact⟨rfl,rfl,_,rfl,fun h=>absurd h wj⟩|exact⟨rfl,rfl,0,rfl,fun _=>⟨hb vq,⟨vz,by rw[hta];omega⟩,(he3 vz).1,(he3 vz).2⟩⟩|skip
def HD(k:Kn)(h:k.lk.sum<=5000)(tx:Int):VCalls prog 183 [.agg k.d,.int .i64 tx] [] (QM inD fun _=>True):=by
 refine dd Tryz.func183 ?_;have c1:=qk k.lk h tx;refine rn F ?_
 repeat' (first|with_reducible exact⟨⟩|(refine Qs (c1) rfl ?_;rintro m -;refine rn F ?_)|(refine Qs (GW m) rfl ?_;rintro n -;refine rn F ?_))
 exact⟨rfl,rfl,_,rfl,trivial⟩
def doQ(k:Kn)(a:Ac)(r:Kn×Rs):Prop:=r.1.sm/\(r.2.st=3->r.1.pl=k.pl/\r.2.pg=a.pg/\idF k.pl.fs a.pg<0/\Str 0 k r.1)/\(r.2.st=2->Str 0 k r.1)/\(r.2.st≠3->r.2.st≠2->r.2.st≠5->Str 1 k r.1)
def HE{k:Kn}{tx:Int}{a:Ac}{g:Gr}{u:Lk}{hd:Bool}{e7:Int}(hu:tP k.lk ⟨g.tx,g.pg,g.sl,g.md⟩ (u,hd,e7))(hg:(a.kind=2\/a.kind=3)->g=⟨tx,a.pg,a.sl,2⟩)(h0:e7=0)(h1:hd=true)(h3:1<=a.kind/\a.kind<=3)(h:a.kind≠1):exG u.held tx a.pg a.sl:=by
 have:=(hu.2 h0).2 h1;grind
def zk(k:Kn)(h:k.sm)(a:Ac)(e:Int):doQ k a (k,aJ e):=⟨h,fun h=>by simp[aJ] at h,fun h=>by simp[aJ] at h,fun _ _ h=>absurd rfl h⟩
def HF(k:Kn)(h:k.sm)(tx:Int)(a:Ac):VCalls prog 129 [.agg k.d,.int .i64 tx,.agg a.d] [] (QM krD (doQ k a)):=by
 refine dk Tryz.func129 ?_;have h':=h;have c1:=HC k h tx a;have c2:=Hp k h tx;have c3:=ze k h tx 1;obtain⟨h1,h2,h3,h4,h5,h6⟩:=h;have hsl:=h4.smL vz;have c4:=F7 k.tx hsl tx;have c5:=F8 k.tx hsl tx a.sl;have m4:=Hb (l:=k.tx) tx;have m5:=Hc (l:=k.tx) tx a.sl;have c6:=zi tx a;have c7:=fun g=>GU k.lk vz g;have hK:=fun(u:Lk) (hu:u.sum<=1024)=>(⟨h1,h2,hu,h4,h5,h6⟩:Kn.sm ⟨k.pg,k.nx,k.lg,k.pl,u,k.tx,k.ix,k.la⟩)
 have c8:=fun(u:Lk) (hu:u.sum<=1024) (hv:VK k)=>Hz ⟨k.pg,k.nx,k.lg,k.pl,u,k.tx,k.ix,k.la⟩ (hK u hu) hv tx;have c9:=fun(u:Lk) (hu:u.sum<=1024)=>GY u vz tx;have c10:=fun(u:Lk) (hu:u.sum<=1024)=>ze ⟨k.pg,k.nx,k.lg,k.pl,u,k.tx,k.ix,k.la⟩ (hK u hu) tx 4;refine rn F ?_;refine Qs c1 rfl ?_;rintro er her;by_cases he:er=0;rotate_left
 ·skip
  have F:=@he;refine rn F ?_
  repeat' (first|with_reducible exact⟨⟩|refine vp F (dA _) ?_|(refine Qf (id:=3) [0,1] [⟨[],[],2,[0],[]⟩,⟨[],[],3,[1],[]⟩,⟨[],[],4,[],[]⟩] vw vw ?_;refine rn F ?_))
  exact⟨rfl,rfl,(k,aJ er),rfl,zk k h' a er⟩
 obtain⟨hv,⟨hi,hst⟩,hk,hs⟩:=her he;have hst3:(QW k.tx tx).st≠3:=vz;subst he;have F:=trivial;refine rn F ?_
 repeat' (first|with_reducible exact⟨⟩|(refine sB F ?_ ?_<;>intro hZ)|(refine Qs (c2 hi hst3 hv.2.2.2.2.1) rfl ?_;rintro⟨k1,r1⟩ hq;refine rn F ?_)|(refine Qs (c3 hi hst3 hv.2.2.2.2.1) rfl ?_;rintro⟨k1,r1⟩ hq;refine rn F ?_)|refine vp F (c4) ?_|refine vp F (c5) ?_|refine vp F (dA _) ?_|(refine Qs (c6) rfl ?_;rintro⟨g,nd⟩ hgl;refine rn F ?_)|(refine Qs (c7 ⟨_,_,_,_⟩) rfl ?_;rintro⟨u,hd,e7⟩ hu;refine rn F ?_)|(refine Qs (c8 u hu.1 hv hi hst a (hs vz) (HE hu hgl vz (by first|assumption|rfl|simp_all) vz)) rfl ?_;rintro⟨k1,r1⟩ hq;refine rn F ?_)|(refine Qs (c9 u hu.1) rfl ?_;rintro cy -;refine rn F ?_)|(refine Qs (c10 u hu.1 hi hst3 hv.2.2.2.2.1) rfl ?_;rintro⟨k1,r1⟩ hq;refine rn F ?_)|(refine Qs (HD ⟨k.pg,k.nx,k.lg,k.pl,u,k.tx,k.ix,k.la⟩ (Jc hu.1 vj) tx) rfl ?_;rintro n -;refine rn F ?_)|(refine Qf (id:=15) [0,1] [⟨[],[],2,[0],[]⟩,⟨[],[],3,[1],[]⟩,⟨[],[],4,[],[]⟩] vw vw ?_;refine rn F ?_)|(refine Qf (id:=21) [0,1] [⟨[],[],2,[0],[]⟩,⟨[],[],3,[1],[]⟩,⟨[],[],4,[],[]⟩] vw vw ?_;refine rn F ?_)|(refine Qf (id:=27) [0,1] [⟨[],[],2,[1],[]⟩,⟨[],[],3,[],[]⟩] vw vw ?_;refine rn F ?_)|(refine Qf (id:=28) [0,1] [⟨[],[],2,[1],[]⟩,⟨[],[],3,[],[]⟩] vw vw ?_;refine rn F ?_)|(refine Qf (id:=32) [0,1] [⟨[],[],2,[1],[]⟩,⟨[],[],3,[],[]⟩] vw vw ?_;refine rn F ?_)|(refine Qf (id:=33) [0,1] [⟨[],[],2,[1],[]⟩,⟨[],[],3,[],[]⟩] vw vw ?_;refine rn F ?_)|(refine Qf (id:=34) [0,1,2] [⟨[],[],3,[0],[4]⟩,⟨[],[],5,[1,2,4],[]⟩,⟨[],[],6,[],[]⟩] vw vw ?_;refine rn F ?_))
 all_goals first|exact⟨rfl,rfl,(k,aJ _),rfl,zk k h' a _⟩|exact⟨rfl,rfl,(⟨k.pg,k.nx,k.lg,k.pl,k.lk,(fq k.tx tx).1,k.ix,k.la⟩,⟨1,0,0,Ce0,0⟩),rfl,⟨h1,h2,h3,m4,h5,h6⟩,fun h=>by simp at h,fun h=>by simp at h,fun _ _ _=>(Str.one (.save tx vz)).mono vz⟩|exact⟨rfl,rfl,(⟨k.pg,k.nx,k.lg,k.pl,k.lk,(ft k.tx tx a.sl).1,k.ix,k.la⟩,⟨1,0,0,Ce0,0⟩),rfl,⟨h1,h2,h3,m5,h5,h6⟩,fun h=>by simp at h,fun h=>by simp at h,fun _ _ _=>(Str.one (.back tx a.sl vz)).mono vz⟩|exact⟨rfl,rfl,(⟨k.pg,k.nx,k.lg,k.pl,u,k.tx,k.ix,k.la⟩,⟨2,n,0,Ce0,0⟩),rfl,hK u hu.1,fun h=>by simp at h,fun _=>Str.one (.lock u (.of (hu.2 wz).1)),fun _ h=>absurd rfl h⟩|exact⟨rfl,rfl,(k1,r1),rfl,hq.1,fun h=>by have:=hq.2.1;dsimp only at this h;omega,fun h=>by have:=hq.2.1;dsimp only at this h;omega,fun _ _ h=>(hq.2.2 h).mono vz⟩|exact⟨rfl,rfl,(k1,r1),rfl,hq.1,fun h=>by have:=hq.2.1;dsimp only at this h;omega,fun h=>by have:=hq.2.1;dsimp only at this h;omega,fun _ _ h=>(Str.one (.lock u (.of (hu.2 wz).1))).tr0 ((hq.2.2 h).mono vz)⟩|exact⟨rfl,rfl,(k1,r1),rfl,hq.1,fun h=>⟨Eq.trans (congrArg Kn.pl (hq.2.1 h).1) rfl,(hq.2.1 h).2.1,(hq.2.1 h).2.2,by have q:=(hq.2.1 h).1;dsimp only at q;subst q;exact Str.one (.lock u (.of (hu.2 wz).1))⟩,fun h=>by have:=hq.2.2.1;dsimp only at this h;omega,fun a1 a2 a3=>(Str.one (.lock u (.of (hu.2 wz).1))).tr0 (hq.2.2.2 (by have:=hq.2.2.1;dsimp only at this a1 a3 |-;omega))⟩|exact⟨rfl,rfl,(k,r1),rfl,h',fun h=>by dsimp only at h;omega,fun h=>by dsimp only at h;omega,fun _ _ h=>by dsimp only at h;omega⟩|skip
section
attribute [local go_sem] ba
def qG(h:∃i,i<l.length/\a=(l.getD i Fm0).pg.id):∃j:Nat,j<l.length/\idF l a=j/\(l.getD j Fm0).pg.id=a:=by
 obtain⟨i,hi,ha⟩:=h;rcases gK l a with hn|⟨j,hj,h1,h2⟩
 ·unfold idF bA at hn;rw[if_pos (JE.2 ⟨l[i],Ji hi,by rw[ha,Qd l i hi];simp⟩)] at hn;omega
 ·exact⟨j,hj,h1,h2⟩
def HG(p:Pl)(a:Int)(h:p.fs.length<=64):(df p a).1.fs.length<=64:=by
 unfold df;repeat' split
 all_goals first|exact Jg _|(simp only[Jf,Jq,JY];omega)
def HH(hp:plB p=true)(hi:0<=idF p.fs a)(hd:¬(p.fs.getD (idF p.fs a).toNat Fm0).dirty=true):(df p a).2=0:=by
 unfold df;grind
@[go_sem] def HI(a:Kn×Pg×Bool×Int):DV:=.tup [.agg a.1.d,.agg a.2.1.d,.bool a.2.2.1,.int .i64 a.2.2.2]
def HJ(k:Kn)(a:Kn×Pg×Bool×Int):Prop:=a.1.sm/\(a.2.2.2=0->Str 0 k a.1/\a.1.tx=k.tx/\(a.2.2.1=true->plB a.1.pl=true/\SameF k.pl.fs a.1.pl.fs/\∃i,i<a.1.pl.fs.length/\idF a.1.pl.fs a.2.1.id=i/\(a.1.pl.fs.getD i Fm0).pg=a.2.1/\(a.1.pl.fs.getD i Fm0).dirty=true)/\(a.2.2.1=true->kB k=true/\(a.2.1.lsn<=a.1.lg.end_->a.2.1.lsn<=a.1.lg.d)))
def HK(k:Kn)(h:k.sm):VCalls prog 161 [.agg k.d] [] (QM HI (HJ k)):=by
 refine dk Tryz.func161 ?_;have h':=h;have c1:=gN k h;have hkV:=@dW k;obtain⟨h1,h2,h3,h4,h5,h6⟩:=h;have c2:=G7 k.pl vz;refine rn F ?_;generalize hbk:kB k=b at *;cases b
 ·skip
  refine rn F ?_
  repeat' (first|with_reducible exact⟨⟩|refine vp F (c1) ?_)
  exact⟨rfl,rfl,(Kn0,Pg0,false,15),rfl,dy,fun h=>by simp at h⟩
 obtain⟨v1,v2,v3,v4,v5,v6,v7⟩:=hkV rfl;have hd:=lI v4;simp only[Pl.hd] at hd;refine rn F ?_
 repeat' (first|with_reducible exact⟨⟩|(refine sB F ?_ ?_<;>intro hZ)|refine vp F (c1) ?_)
 ·exact⟨rfl,rfl,(k,Pg0,false,0),rfl,h',fun _=>⟨Str.refl _,rfl,fun h=>by simp at h,fun h=>by simp at h⟩⟩
 refine Qs c2 rfl ?_;rintro⟨p,id,e⟩ ⟨w1,w2,w3⟩;obtain rfl:e=0:=w2 v4 vz;obtain⟨_,w4,w5,w6,w7⟩:=w1 rfl;obtain⟨i,hi,hid,hix⟩:=qG w7;dsimp only at w3 w4 w5 w6 hi hid hix;have c3:=ka p vz id;have hf:bg p id=i:=by unfold bg;rw[if_pos w4];exact hid
 rw[hf] at c3;have hg:=dQ p.fs i hi;have c4:=G5 p vz id;have hdl:=HG p id vz;have hdo:=fun hd=>HH (p:=p) (a:=id) w4 (by rw[hid];omega) hd;rw[hid,Jh] at hdo;have hsm:∀q:Pl,q.fs.length<=64->(⟨k.pg,k.nx,k.lg,q,k.lk,k.tx,k.ix,k.la⟩:Kn).sm:=fun q hq=>⟨h1,hq,h3,h4,h5,h6⟩
 have c5:=qy ⟨k.pg,k.nx,k.lg,p,k.lk,k.tx,k.ix,k.la⟩ (hsm p vz);generalize hff:p.fs.getD i Fm0=f at *;have F:=@hg;refine rn F ?_
 repeat' (first|with_reducible exact⟨⟩|(refine sB F ?_ ?_<;>intro hZ)|refine vp F (c3) ?_|refine vp F (c4) ?_|(refine Qs (c5 _) rfl ?_;rintro d hd2;refine rn F ?_)|(refine Qf (id:=7) [0,1,2,3] [⟨[7],[],4,[0,1],[5,6]⟩,⟨[7],[7],8,[],[]⟩] vw vw ?_;refine rn F ?_)|(refine Qf (id:=11) [0,1,2,3,5,6] [⟨[],[],4,[1,2,5,6],[]⟩,⟨[],[],7,[5,6],[]⟩,⟨[],[],8,[],[]⟩,⟨[],[],9,[],[]⟩,⟨[],[],10,[],[]⟩] vw vw ?_;refine rn F ?_))
 ·exact⟨rfl,rfl,(⟨k.pg,k.nx,k.lg,(df p id).1,k.lk,k.tx,k.ix,k.la⟩,Pg0,false,0),rfl,hsm _ hdl,fun _=>⟨(Str.one (.pool p w5)).step (.drop id (hdo wy)),rfl,fun h=>by simp at h,fun h=>by simp at h⟩⟩
 ·exact⟨rfl,rfl,(⟨k.pg,k.nx,⟨k.lg.f,k.lg.es,d⟩,p,k.lk,k.tx,k.ix,k.la⟩,f.pg,true,0),rfl,⟨h1,vu,h3,h4,h5,h6⟩,fun _=>⟨(Str.one (.pool p w5)).step (.force d hd2.1 hd2.2.1),rfl,fun _=>⟨w4,w5,i,hi,by dsimp only;rw[hix];exact hid,by dsimp only;rw[hff],by dsimp only;rw[hff];first|assumption|simp_all⟩,fun _=>⟨by first|rfl|assumption,fun h=>hd2.2.2 v3 h⟩⟩⟩
@[go_sem] def HL(a:Kn×Pg×Int):DV:=.tup [.agg a.1.d,.agg a.2.1.d,.int .i64 a.2.2]
def zl(k:Kn)(n:Int)(a:Kn×Pg×Int):Prop:=a.1.sm/\(a.2.2=0->Str 0 k a.1/\0<=bg k.pl n/\a.2.1=(aN k.pl n).1/\a.1.pl=k.pl/\a.1.tx=k.tx/\kB k=true/\(a.2.1.lsn<=a.1.lg.end_->a.2.1.lsn<=a.1.lg.d))
def HM(k:Kn)(h:k.sm)(n:Int):VCalls prog 81 [.agg k.d,.int .i64 n] [] (QM HL (zl k n)):=by
 refine dk Tryz.func81 ?_;have c1:=gN k h;have hlgv:kB k=true->lgB k.lg=true:=fun q=>(dW q).2.2.1;have h':=h;obtain⟨h1,h2,h3,h4,h5,h6⟩:=h;have c2:=nO k.pl vz n;have c3:=qy k h'
 have hz:(aN k.pl n).2=true->0<=bg k.pl n:=fun h=>by
  unfold aN at h;split at h
  ·simp at h
  ·omega
 unfold zl;generalize aN k.pl n=g at *;generalize kB k=B at *;refine rn F ?_
 repeat' (first|with_reducible exact⟨⟩|(refine sB F ?_ ?_<;>intro hZ)|refine vp F (c1) ?_|refine vp F (c2) ?_|(refine Qs (c3 _) rfl ?_;rintro d hd;refine rn F ?_)|(refine Qf (id:=6) [0,1,2,4] [⟨[],[],3,[1,4],[]⟩,⟨[],[],5,[4],[]⟩,⟨[],[],6,[],[]⟩,⟨[],[],7,[],[]⟩] vw vw ?_;refine rn F ?_))
 all_goals first|exact⟨rfl,rfl,(Kn0,Pg0,15),rfl,dy,fun h=>by simp at h⟩|exact⟨rfl,rfl,(Kn0,Pg0,18),rfl,dy,fun h=>by simp at h⟩|exact⟨rfl,rfl,(⟨k.pg,k.nx,⟨k.lg.f,k.lg.es,d⟩,k.pl,k.lk,k.tx,k.ix,k.la⟩,g.1,0),rfl,⟨h1,h2,h3,h4,h5,h6⟩,fun _=>⟨Str.one (.force d hd.1 hd.2.1),hz wy,rfl,rfl,rfl,wv,fun q=>hd.2.2 (hlgv wv) q⟩⟩|refine⟨rfl,rfl,(⟨k.pg,k.nx,⟨k.lg.f,k.lg.es,d⟩,k.pl,k.lk,k.tx,k.ix,k.la⟩,g.1,0),rfl,⟨h1,h2,h3,h4,h5,h6⟩,fun _=>⟨Str.one (.force d hd.1 hd.2.1),hz hZ,rfl,rfl,rfl,fun q=>?_⟩⟩;exact hd.2.2 (hlgv vq) q|skip
def HN(p:Pl)(a n:Int)(h:p.fs.length<=64):(bR p a n).1.fs.length<=64:=by
 unfold bR;repeat' split
 all_goals first|exact Jg _|exact h|simpa using h
def zm(id n:Int):E:=⟨0,7,0,0,0,n,⟨id,0,Ce0,Ce0⟩,[]⟩
def HO(k:Kn)(id n:Int)(a:Kn×Int):Prop:=a.1.sm/\(a.2=0->∃e',AddOk k (zm id n) e'/\a.1.tx=k.tx/\(0<=bg k.pl id->a.1=k.wrt e'/\(bR k.pl id n).2=0))
def HP (k:Kn) (h:k.sm) (id n:Int):VCalls prog 107 [.agg k.d,.int .i64 id,.int .i64 n] [] (QM kiD (HO k id n)):=by
 refine dk Tryz.func107 ?_;have c1:=lM k h;have h':=h;obtain⟨h1,h2,h3,h4,h5,h6⟩:=h;have c2:=qt k.lg vz;have c3:=ka k.pl vz id;have c4:=fun(h:n<=1099511627776) (h0:0<=n)=>G4 k.pl vz id n h h0;have c5:=kg k h' ⟨0,7,0,0,0,n,⟨id,0,Ce0,Ce0⟩,[]⟩;have hcl:=HN k.pl id n h2;refine rn F ?_;refine Qs c1 rfl ?_;rintro b hb;cases b
 ·skip
  refine rn F ?_;exact⟨rfl,rfl,(Kn0,15),rfl,dy,fun h=>by simp at h⟩
 have hv:=hb rfl
 have hls:eR k.lg<=1099511627776:=by
  unfold eR;rw[if_pos hv.2.2.1];exact yK hv.2.2.1
 refine rn F ?_
 repeat' (first|with_reducible exact⟨⟩|(refine sG F ?_ ?_<;>intro hZ)|(refine sB F ?_ ?_<;>intro hZ)|refine vp F (c2) ?_|refine vp F (c3) ?_|refine vp F (c4 vz vz) ?_|(refine Qs (c5) rfl ?_;rintro⟨k1,n1,e1⟩ hq;refine rn F ?_))
 all_goals first
  |exact⟨rfl,rfl,(Kn0,1),rfl,dy,fun h=>by simp at h⟩
  |exact⟨rfl,rfl,(Kn0,(bR k.pl id n).2),rfl,dy,fun h=>absurd h vq⟩
  |exact⟨rfl,rfl,(Kn0,e1),rfl,dy,fun h=>absurd h vq⟩
  | (have he1:e1 = 0:=vz
     obtain⟨e',ha,hk1,hn1,hl1⟩:=hq.2 he1;have q8:=Hr hq he1 rfl;obtain⟨r1,r2,r3,r4,r5,r6⟩:=hq.1
     first
      |exact⟨rfl,rfl,(⟨k1.pg,k1.nx,k1.lg,(bR k.pl id n).1,k1.lk,k1.tx,k1.ix,k1.la⟩,0),rfl,⟨r1,hcl,r3,r4,r5,r6⟩,fun _=>⟨e',ha,q8,fun _=>⟨by dsimp only at hk1;subst hk1;unfold Kn.wrt;rw[ha.2.1.2.2.2.1,ha.2.1.2.2.1];rfl,vz⟩⟩⟩
      | exact⟨rfl,rfl,(⟨k1.pg,k1.nx,k1.lg,k.pl,k1.lk,k1.tx,k1.ix,k1.la⟩,0),rfl,⟨r1,h2,r3,r4,r5,r6⟩,fun _=>⟨e',ha,q8,fun h=>by omega⟩⟩)
  |skip
end
section
attribute [local go_sem] ba
def zn(h:(dV p x).2=0):plB p=true/\Q5 x=0/\idF p.fs x.id<0/\¬(p.fs.length:Int)=p.size:=by
 unfold dV at h;grind
def qH(p:Pl)(x:Pg)(o:Nat):Qb:=[⟨29,true,[.int .i64 p.size,.own (o+5) 37 0 (p.fs.length+1),.int .i64 p.hand]⟩,⟨175,true,x.d⟩,⟨29,true,[.int .i64 p.size,.own (o+5) 37 0 (p.fs.length+1),.int .i64 p.hand]⟩,⟨179,false,[]⟩,⟨179,true,Fm.d ⟨x,false,0,true⟩⟩,⟨179,true,cells aA (p.fs++[⟨x,false,0,true⟩])⟩]
def HQ(p:Pl)(hl:p.fs.length<=100000)(x:Pg)(h:(dV p x).2=0):VCalls prog 165 [.agg p.d,.agg x.d] [] fun r h'=>r=.tup [.agg [.int .i64 p.size,.own 5 37 0 (p.fs.length+1),.int .i64 p.hand],.int .i64 0]/\h'=qH p x 0:=by
 refine lA (fn:=Tryz.f165) Tryz.func165 rfl vw (by simp[Tryz.f165]) ?_;obtain⟨e1,e2,e3,e4⟩:=zn h;have c1:=gJ p vz;have c2:=lH x;have c3:=j9 p vz x.id;rw[e1] at c1;rw[e2] at c2;have e5:¬0<=idF p.fs x.id:=vz;generalize idF p.fs x.id=m at *;(unfold Tryz.f165;refine rn trivial ?_)
 have F:=(Ja @e5 @e4)
 refine rn F ?_
 repeat' (first|with_reducible exact⟨⟩|refine vp F (c1) ?_|refine vp F (c2) ?_|refine vp F (c3) ?_|(refine Qf (id:=10) [0,1,3,4] [⟨[5],[],2,[0,3,4],[]⟩,⟨[5],[5],6,[0,1,3,4],[7]⟩,⟨[],[],8,[],[]⟩] vw vw ?_;refine rn F ?_))
 all_goals rfl
def zo(hp h':Qb):Q6 hp [] h'=hp++h'.map (aG (back [] hp.length)):=by
 unfold Q6;congr 1;apply List.ext_getElem?
 grind
def HR(p:Pl)(hl:p.fs.length<=100000)(x:Pg)(hz:(dV p x).2=0)(h:K (.tup [.agg [.int .i64 p.size,.own (hp.length+5) 37 0 (p.fs.length+1),.int .i64 p.hand],.int .i64 0]) (hp++qH p x hp.length)):VCalls prog 165 [.agg p.d,.agg x.d] hp K:=by
 refine(VCalls.frame [] J4 rfl rfl (HQ p hl x hz) rfl rfl).mono ?_;rintro r h2 ⟨r0,h',⟨rfl,rfl⟩,-,rfl,rfl⟩;rw[zo];have e1:aG (back [] hp.length) ⟨175,true,x.d⟩=⟨175,true,x.d⟩:=jh rfl;have e2:aG (back [] hp.length) ⟨179,true,Fm.d ⟨x,false,0,true⟩⟩=⟨179,true,Fm.d ⟨x,false,0,true⟩⟩:=jh rfl;have e3:aG (back [] hp.length) ⟨179,true,cells aA (p.fs++[⟨x,false,0,true⟩])⟩=⟨179,true,cells aA (p.fs++[⟨x,false,0,true⟩])⟩:=jh (Qw _ _ _);simp only[qH,Jz,Jx,e1,e2,e3] at h |-;exact h
def HS(l:List Fm)(f:Fm)(b:Bool):(cells aA (l++[f])).set (l.length*37+34) (.pv (.lit (.bool b)))=cells aA (l++[⟨f.pg,b,f.rc,f.used⟩]):=by
 rw[<-nJ,<-nJ,<-pZ l,JJ _ _ (JZ _ _),JD];rfl
def HT(l:List Fm)(f:Fm)(n:Int):(cells aA (l++[f])).set (l.length*37+35) (.pv (.lit (.int .i64 n)))=cells aA (l++[⟨f.pg,f.dirty,n,f.used⟩]):=by
 rw[<-nJ,<-nJ,<-pZ l,JJ _ _ (JZ _ _),JD];rfl
def HU(k:Kn)(x:Pg)(a:Kn×Int):Prop:=a.1.sm/\(a.2=0->PutK k x a.1/\a.1.lg=k.lg/\a.1.tx=k.tx/\0<=idF a.1.pl.fs x.id)
def HV(c:VCalls P g args hp (QM f Q))(h:∀a,Q a->f a=d):VCalls P g args hp (Ret d):=
 c.mono fun _ _ ⟨h1,h2,a,e,q⟩=>⟨h1,h2,e.trans (h a q)⟩
def flY(l:List Dt)(n:Int)(i:Nat):List Dt:=(l.take i).filter fun d=>decide (d.pg≠n)
def HW(l:List Dt)(n:Int)(i:Nat)(h:i<l.length):flY l n (i+1)=if (l.getD i Dt0).pg=n then flY l n i else flY l n i++[l.getD i Dt0]:=by
 unfold flY;rw[Jj h,List.filter_append,Qd l i h];grind
def HX(l:List Dt)(n:Int)(i:Nat):(flY l n i).length<=i:=Jc (JH _ _) (by rw[Jq];omega)
def HY(l:List Fm)(f:Fm):0<=idF (l++[f]) f.pg.id:=by
 obtain⟨j,_,h,_⟩:=qG (l:=l++[f]) (a:=f.pg.id) ⟨l.length,vv,by rw[Jd,Js (JN _),JU];rfl⟩;omega
def HZ (k:Kn) (h:k.sm) (x:Pg):VCalls prog 121 [.agg k.d,.agg x.d] [] (QM kiD (HU k x)):=by
 refine dk Tryz.func121 ?_;have h':=h;have c1:=gN k h;have c2:=HV (d:=.int .i64 (dX k x.id)) (tZ k h x.id) fun a q=>by rw[q];rfl
 obtain⟨h1,h2,h3,h4,h5,h6⟩:=h;have c3:=G2 k.pl vz x;have c4:=qv k vz x.id;refine rn F ?_;cases hv:kB k
 ·rw [hv] at c1;refine rn F ?_
  repeat' (first|with_reducible exact⟨⟩|refine vp F (c1) ?_)
  exact⟨rfl,rfl,(Kn0,_),rfl,dy,fun h=>by simp at h⟩
 rw[hv] at c1;refine rn F ?_
 repeat' (first|with_reducible exact⟨⟩|(refine sG F ?_ ?_<;>intro hZ)|(refine sB F ?_ ?_<;>intro hZ)|refine vp F (c1) ?_|refine vp F (c2) ?_|(refine Qf (id:=5) [0,1,2,3,4] [⟨[],[],5,[0,1,3],[6]⟩,⟨[],[],7,[0,1,2,3,4],[]⟩] vw vw ?_;refine rn F ?_)|(refine Qf (id:=7) [0,1,2,3,4] [⟨[],[],5,[0,1,3],[6]⟩,⟨[],[],7,[0,1,2,3,4],[]⟩] vw vw ?_;refine rn F ?_))
 all_goals first|exact⟨rfl,rfl,(Kn0,_),rfl,dy,fun h=>by simp at h⟩|skip
 have hpe:(dV k.pl x).2≠0->(dV k.pl x).1=Pl0:=fun h=>by
  unfold dV at h |-;repeat' split
  all_goals first|rfl|simp_all
 by_cases hz:(dV k.pl x).2=0;rotate_left
 ·rw [hpe hz] at c3;have F:=@hz;refine rn F ?_
  repeat' (first|with_reducible exact⟨⟩|refine vp F (c3) ?_)
  exact⟨rfl,rfl,(Kn0,_),rfl,dy,fun h=>absurd h hz⟩
 refine HR k.pl vz x hz ?_;obtain⟨p1,p2,p3,p4⟩:=zn hz;have hd:=lI p1;simp only[Pl.hd] at hd;unfold qH;have s34:=HS k.pl.fs;have s35:=HT k.pl.fs;have hi0:=HY k.pl.fs;have hnn:k.pl.fs.length+1-1=k.pl.fs.length:=vz;have h34:(k.pl.fs.length*37+34<(k.pl.fs.length+1)*37)=True:=eq_true vz;have h35:(k.pl.fs.length*37+35<(k.pl.fs.length+1)*37)=True:=eq_true vz;have F:=(Ja @s34 (Ja @s35 (Ja @hnn (Ja @h34 @h35))))
 refine rn F ?_
 repeat' (first|with_reducible exact⟨⟩|(refine sB F ?_ ?_<;>intro hZ)|(refine Qs (c4) rfl ?_;rintro⟨d,b2⟩ hdl;refine rn F ?_))
 rotate_left
 ·exact⟨rfl,rfl,(⟨k.pg,k.nx,k.lg,⟨k.pl.size,k.pl.fs++[⟨x,false,0,true⟩],k.pl.hand⟩,k.lk,k.tx,k.ix,k.la⟩,0),rfl,⟨h1,vg,h3,h4,h5,h6⟩,fun _=>⟨PutK.put hv ⟨vz,vz⟩ vz hz (by rw[<-hdl];first|assumption|simp_all),rfl,rfl,hi0 ⟨x,false,0,true⟩⟩⟩
 have hd1:(aM k.la x.id).1=d:=by rw[<-hdl]
 have hb2:(aM k.la x.id).2=true:=by rw[<-hdl];first|assumption|simp_all
 have hst:=PutK.putl (k:=k) (x:=x) hv ⟨vz,vz⟩ vz hz hb2;rw[hd1] at hst;refine VLoop.nilOwn 10 187 3 rfl ?_;refine rn trivial ?_
 refine Qj (fun s:To k.la.length=>⟨113,0,[(11,.int .i64 s.i),(10,.own 5 3 0 (flY k.la x.id s.i).length),(6,.ptr 4 0),(4,.ptr 2 0),(3,.ptr 1 0),(2,.ptr 0 0)],
  [⟨39,true,k.d⟩,⟨175,true,x.d⟩,⟨39,true,[.int .i64 0,.int .i64 0,.int .i64 0,.pv (.slc []),.int .i64 0,.int .i64 0,.pv (.slc []),.int .i64 0,.pv (.slc []),.pv (.slc []),.pv (.slc []),.pv (.slc []),.pv (.slc [])]⟩,⟨179,true,cells aA (k.pl.fs++[⟨x,true,d.rc,true⟩])⟩,⟨29,true,[.int .i64 k.pl.size,.own 3 37 0 (k.pl.fs.length+1),.int .i64 k.pl.hand]⟩,⟨187,true,cells aF (flY k.la x.id s.i)⟩]⟩) (fun s=>k.la.length-s.i) ⟨0,Jg _⟩ (gc [0,1,2,8,9,11]) ?_
 rintro⟨i,hi⟩;dsimp only;have hsu:=HW k.la x.id i;have ho:=HX k.la x.id i;have hfin:k.la.length<=i->flY k.la x.id i=k.la.filter fun d=>decide (d.pg≠x.id):=fun h=>by unfold flY;rw[Jk h]
 generalize hout:flY k.la x.id i=out at *;have hy:=fun h:i<k.la.length=>iz k.la i h;have hb:(out.length+1)*24<=140737488355328:=vz;have F:=(Ja @hy @hb)
 refine rn F ?_
 repeat' (first|with_reducible exact⟨⟩|(refine sB F ?_ ?_<;>intro hZ)|(refine Qf (id:=20) [0,1,2,3,4,5,6,7,8] [] vw vw ?_;refine rn F ?_))
 all_goals first
  | (have e1:=hsu vz
     rw[if_pos wz] at e1;refine⟨⟨i+1,vz⟩,vu,?_⟩;dsimp only;rw[e1]
     exact(gc [0,1,2,3,4,5]))
  | (have e1:=hsu vz
     rw[if_neg wz] at e1;refine⟨⟨i+1,vz⟩,vu,?_⟩;dsimp only;rw[e1,Jf]
     exact(gc [0,1,2,3,4,7]))
  | (have e1:=hfin vz
     rw[<-e1] at hst
     exact⟨rfl,rfl,(⟨k.pg,k.nx,k.lg,⟨k.pl.size,k.pl.fs++[⟨x,true,d.rc,true⟩],k.pl.hand⟩,k.lk,k.tx,k.ix,out⟩,0),rfl,⟨h1,vg,h3,h4,h5,vu⟩,fun _=>⟨hst,rfl,rfl,hi0 ⟨x,true,d.rc,true⟩⟩⟩)
  |skip
end
def zp(l:List (List UInt8)):(cells aK l).length=l.length*1:=QK aK l
def H1(l:List (List UInt8))(n:Nat)(h:l.length*1<=n):(cells aK l).take n=cells aK l:=by rw[Jk];rw[zp];exact h
def H2(l:List (List UInt8)):(fz aK l=[]\/(fz aK l)[0]?.map J9=some 1)=True:=jW aK l
def H3(h:l.length=len):bw n hp 0 1 len (some (cells aK l))=some (.sl (fz aK l)):=Q3 aK h
attribute [go_sem] zp H1 H2 H3
def zq(l:List (List UInt8))(i:Nat)(h:i<l.length):(fz aK l)[i]?=some [.str (l.getD i [])]:=iy aK l [] i h
def H4(l:List (List UInt8))(x:List UInt8):cells aK l++[.pv (.str x)]=cells aK (l++[x]):=by rw[QC];rfl
def H5(l:List (List UInt8)):DV.wk.go (cells aK l)=cells aK l:=gE aK l fun a p hp=>by
 simp[aK] at hp;subst hp;rfl
attribute [go_sem] H4 H5
structure Dv where
 ps:List (List UInt8)
 wr:Int
 dead:Bool
@[go_sem] def Dv.d(v:Dv):List DV:=[.pv (.sl (fz aK v.ps)),.int .i64 v.wr,.pv (.sl []),.bool v.dead,.pv (.sl [])]
def Dv0:Dv:=⟨[],0,false⟩
def zr(v:Dv):Prop:=(1<=v.ps.length/\v.ps.length<=64)/\(0<=v.wr/\v.wr<=1099511627776)/\∀i,i<v.ps.length->(v.ps.getD i []).length=256
def H6(v:Dv)(hl:v.ps.length<=100000):VCalls prog 188 [.agg v.d] [] (QM boD fun b=>b=true->zr v):=by
 refine dd Tryz.func188 ?_;refine rn F ?_
 repeat' (first|with_reducible exact⟨⟩|(refine sG F ?_ ?_<;>intro hZ))
 all_goals first|exact⟨rfl,rfl,false,rfl,fun h=>by cases h⟩|skip
 refine Qj (fun s:Okay v.ps.length (fun i=>decide ((v.ps.getD i []).length=256))=>⟨99,0,[(4,.int .i64 s.i),(3,.int .i64 v.ps.length),(1,.ptr 0 0)],[⟨75,true,v.d⟩]⟩) (fun s=>v.ps.length-s.i) (Okay.start _ _) (gc [0]) ?_;intro s;have hsi:=s.hi;have hg:=fun h:s.i<v.ps.length=>zq v.ps s.i h;have F:=@hg;refine rn F ?_
 repeat' (first|with_reducible exact⟨⟩|(refine sB F ?_ ?_<;>intro hZ))
 all_goals first|exact⟨rfl,rfl,false,rfl,fun h=>by cases h⟩|exact⟨s.next vz (decide_eq_true vz),s.dec vz,(gc [0])⟩|skip
 have hall:=s.all vz;simp only[Jl,Jo,decide_eq_true_eq] at hall;refine Qj (fun s:Unit=>⟨99,0,[(5,.int .i64 0),(3,.int .i64 v.ps.length),(1,.ptr 0 0)],[⟨75,true,v.d⟩]⟩) (fun s=>0) () (gc [0]) ?_;intro _;have F:=trivial;refine rn F ?_;refine Qj (fun s:Unit=>⟨99,0,[(6,.int .i64 0),(1,.ptr 0 0)],[⟨75,true,v.d⟩]⟩) (fun s=>0) () (gc [0]) ?_;intro _;have F:=trivial;refine rn F ?_;exact⟨rfl,rfl,true,rfl,fun _=>⟨⟨vz,vz⟩,⟨vz,vz⟩,fun i hi=>hall i hi⟩⟩
def usQ(v:Dv)(n e:Int):Prop:=e=0->zr v/\0<=n/\n<v.ps.length
def ug(v:Dv)(hl:v.ps.length<=100000)(n:Int):VCalls prog 140 [.agg v.d,.int .i64 n] [] (QM inD (usQ v n)):=by
 refine dd Tryz.func140 ?_;have c1:=H6 v hl;unfold usQ;refine rn F ?_
 repeat' (first|with_reducible exact⟨⟩|(refine sG F ?_ ?_<;>intro hZ)|(refine sB F ?_ ?_<;>intro hZ)|(refine Qs (c1) rfl ?_;rintro b hb;refine rn F ?_))
 all_goals first|exact⟨rfl,rfl,_,rfl,fun h=>absurd h vj⟩|exact⟨rfl,rfl,0,rfl,fun _=>⟨hb vq,vz,vz⟩⟩|skip
def H7(n:Int):VCalls prog 162 [.pv (.sl []),.int .i64 n] [] (Ret (.bool false)):=by
 refine dd Tryz.func162 ?_;refine rn F ?_;refine Qj (fun s:Unit=>⟨18,0,[(5,.int .i64 0),(1,.int .i64 n),(0,.pv (.sl []))],[]⟩) (fun s=>0) () (gc []) ?_;intro _;(refine rn F ?_;try with_reducible exact⟨⟩)
def H8(n:Int):VCalls prog 189 [.pv (.sl []),.int .i64 n] [] (Ret (.pv (.sl []))):=by
 refine dk Tryz.func189 ?_;refine rn F ?_;refine VLoop.wkS ?_;refine rn trivial ?_;refine Qj (fun s:Unit=>⟨27,0,[(6,.int .i64 0),(5,.pv (.sl [])),(1,.int .i64 n),(0,.pv (.sl []))],[]⟩) (fun s=>0) () (gc []) ?_;intro _;(refine rn F ?_;try with_reducible exact⟨⟩)
@[go_sem] def siD(a:List UInt8×Int):DV:=.tup [.pv (.str a.1),.int .i64 a.2]
def H9(v:Dv)(hl:v.ps.length<=100000)(n:Int):VCalls prog 117 [.agg v.d,.int .i64 n] [] (QM siD fun a=>a.2=0->a.1.length=256/\(0<=n/\n<v.ps.length)/\a.1=v.ps.getD n.toNat []):=by
 refine dd Tryz.func117 ?_;have c1:=ug v hl n;have c2:=H7 n;refine rn F ?_;have hg:=fun h:n.toNat<v.ps.length=>zq v.ps n.toNat h;refine Qs c1 rfl ?_;rintro e he;by_cases h0:e=0
 ·obtain ⟨q1,q2,q3⟩:=he h0;subst h0;have F:=@hg;refine rn F ?_
  repeat' (first|with_reducible exact⟨⟩|refine vp F (c2) ?_)
  exact⟨rfl,rfl,(v.ps.getD n.toNat [],0),rfl,fun _=>⟨q1.2.2 _ vz,⟨q2,q3⟩,rfl⟩⟩
 ·skip
  have F:=@h0;refine rn F ?_;exact⟨rfl,rfl,([],e),rfl,fun h=>absurd h h0⟩
section
attribute [local go_sem] ba
def zt(k:Nat)(c:VCalls P g args0 [B] fun r h'=>r=r0/\h'=[B'])(hk:hp[k]?=some B)(hB:B.live=true/\DV.nums.go (fun _=>false) B.cells=true)(hB':DV.nums.go (fun _=>false) B'.cells=true)(ha0:args0=args.map (DV.ren fun j=>[k].idxOf j))(ha:DV.nums.go [k].contains args=true)(hr:r0.ren (back [k] hp.length)=r2)(h:K r2 (hp.set k B')):VCalls P g args hp K:=by
 subst hr;have hlt:k<hp.length:=(List.getElem?_eq_some_iff.1 hk).1;have hg:hp.getD k default=B:=by rw[Jd,hk];rfl
 have hpl:ko hp [k]:=⟨⟨hlt,by rw[hg];exact hB.2⟩,trivial⟩
 refine(VCalls.frame [k] vv (by rw[uh hpl];simp only[Jz,Jx,hg]) (ui hpl) c ha0 ha).mono ?_;rintro r h2 ⟨r1,h',⟨rfl,rfl⟩,-,rfl,rfl⟩;rw[Ia hlt,Jx,J3,jh hB'];exact h
def dvO(k n:Nat)(wr:Int)(dead:Bool):DV:=.agg [.own k 1 0 n,.int .i64 wr,.pv (.sl []),.bool dead,.pv (.sl [])]
def Ib(l:List (List UInt8))(i:Nat)(s:List UInt8)(h:i<l.length):(cells aK l).set i (.pv (.str s))=cells aK (l.set i s):=by
 rw[uj,uj,JT]
def zu(ps:List (List UInt8))(wr:Int)(dead:Bool)(i:Nat)(hi:i<ps.length)(h6:(ps.getD i []).length=256)(s:List UInt8)(n:Nat)(hn:n<=256)(hs:s.length=256) :
 VCalls prog 142 [dvO 0 ps.length wr dead,.int .i64 i,.pv (.str s),.int .i64 n] [⟨9,true,cells aK ps⟩] (fun r h'=>r=dvO 0 ps.length wr dead/\h'=[⟨9,true,cells aK (ps.set i (s.take n++(ps.getD i []).drop n))⟩]):=by
 unfold dvO;refine dd Tryz.func142 ?_;have c1:=H8 i;have hg:=Ic ps i hi;have hse:=fun s=>Ib ps i s hi;generalize ps.getD i []=q at *;refine rn F ?_;have hlt:(i<ps.length)=True:=eq_true hi;have F:=(Ja @hg (Ja @hse @hlt))
 refine rn F ?_
 repeat' (first|with_reducible exact⟨⟩|refine vp F (c1) ?_|(refine Qf (id:=1) [0,1,2,3,4,5,6,7,8,9,10,11,12,13,14] [⟨[],[],15,[],[]⟩] vw vw ?_;refine rn F ?_))
 all_goals exact⟨rfl,rfl⟩
def cpD(o:Nat)(v:Dv):List DV:=[.own (o+2) 1 0 v.ps.length,.int .i64 v.wr,.own (o+3) 1 0 0,.bool v.dead,.own (o+4) 6 0 0]
def lQ(v:Dv)(o:Nat):Qb:=[⟨75,true,cpD o v⟩,⟨75,true,cpD o v⟩,⟨9,true,cells aK v.ps⟩,⟨3,true,[]⟩,⟨253,true,[]⟩]
def Ie(v:Dv)(hl:v.ps.length<=100000):VCalls prog 141 [.agg v.d] [] fun r h'=>r=.agg (cpD 0 v)/\h'=lQ v 0:=by
 refine lA (fn:=Tryz.f141) Tryz.func141 rfl vw (by simp[Tryz.f141]) ?_;unfold cpD lQ;have hb:v.ps.length*16<=140737488355328:=vz;(unfold Tryz.f141;refine rn trivial ?_)
 have F:=@hb;(refine rn F ?_;try with_reducible exact⟨⟩)
 all_goals first|rfl|exact⟨rfl,rfl⟩
def zw(v:Dv)(hl:v.ps.length<=100000)(h:K (.agg (cpD hp.length v)) (hp++lQ v hp.length)):VCalls prog 141 [.agg v.d] hp K:=by
 refine(VCalls.frame [] J4 rfl rfl (Ie v hl) rfl rfl).mono ?_;rintro r h2 ⟨r0,h',⟨rfl,rfl⟩,-,rfl,rfl⟩;rw[zo];have e3:aG (back [] hp.length) ⟨9,true,cells aK v.ps⟩=⟨9,true,cells aK v.ps⟩:=jh (Qw _ _ _);simp only[lQ,Jz,Jx,e3] at h |-;exact h
@[go_sem] def dvD(a:Dv×Int):DV:=.tup [.agg a.1.d,.int .i64 a.2]
def zx(v:Dv)(pg:Int)(s:List UInt8)(n:Int)(a:Dv×Int):Prop:=a.1.ps.length<=64/\(a.2=0->(0<=pg/\pg<v.ps.length)/\s.length=256/\(0<=n/\n<=256)/\(v.ps.getD pg.toNat []).length=256/\a.1.ps=v.ps.set pg.toNat (s.take n.toNat++(v.ps.getD pg.toNat []).drop n.toNat))
def zy(v:Dv)(pg:Int)(s:List UInt8)(n e:Int)(h:e≠0):zx v pg s n (Dv0,e):=⟨Jg _,fun q=>absurd q h⟩
def Ig(v:Dv)(hl:v.ps.length<=100000)(pg:Int)(s:List UInt8)(hs0:s.length<=1000000)(n:Int):VCalls prog 111 [.agg v.d,.int .i64 pg,.pv (.str s),.int .i64 n] [] (QM dvD (zx v pg s n)):=by
 refine dk Tryz.func111 ?_;have c1:=ug v hl pg;refine rn F ?_;refine Qs c1 rfl ?_;rintro e he;by_cases h0:e=0;rotate_left
 ·skip
  have F:=@h0;refine rn F ?_;exact⟨rfl,rfl,(Dv0,e),rfl,zy _ _ _ _ _ h0⟩
 obtain⟨q1,q2,q3⟩:=he h0;subst h0;have F:=trivial;refine rn F ?_
 repeat' (first|with_reducible exact⟨⟩|(refine sG F ?_ ?_<;>intro hZ)|(refine sB F ?_ ?_<;>intro hZ))
 all_goals first|exact⟨rfl,rfl,(Dv0,_),rfl,zy _ _ _ _ _ vj⟩|skip
 obtain⟨i,rfl⟩:∃i:Nat,pg=i:=⟨pg.toNat,vz⟩
 obtain⟨m,rfl⟩:∃m:Nat,n=m:=⟨n.toNat,vz⟩
 have hi:i<v.ps.length:=vz;refine zw v hl ?_;unfold lQ cpD;refine rn trivial ?_;refine VCalls.neA ?_;have hpos:0<v.ps.length:=vz;simp only[Jz,Jx,DV.ne,zz hpos,zA,zB];refine zt 4 (zu v.ps v.wr v.dead i hi (q1.2.2 i hi) s m vz vz) rfl ⟨rfl,Qw _ _ _⟩ (Qw _ _ _) rfl rfl (r2:=dvO 4 v.ps.length v.wr v.dead) rfl ?_;unfold dvO;have hle:∀x,(v.ps.set i x).length=v.ps.length:=fun x=>Ju;have F:=@hle;refine rn F ?_;exact⟨rfl,rfl,(⟨v.ps.set i (s.take m++(v.ps.getD i []).drop m),v.wr,v.dead⟩,0),rfl,by dsimp only;rw[hle];exact q1.1.2,fun _=>⟨⟨q2,q3⟩,vz,⟨vz,vz⟩,q1.2.2 i hi,rfl⟩⟩
def Ih(n:Int)(hn:n<=64):VCalls prog 53 [.int .i64 n] [] (QM (fun l:List (List UInt8)=>.pv (.sl (fz aK l))) fun l=>l.length<=64/\∀b∈l,b=Je 256 0):=by
 refine dk Tryz.func53 ?_;refine rn F ?_;refine VLoop.nilOwn 3 9 1 rfl ?_;refine rn trivial ?_;refine Qj (fun s:{s:Nat×List (List UInt8) // s.1<=64/\s.2.length=s.1/\∀b∈s.2,b=Je 256 0}=>⟨16,0,[(4,.int .i64 s.1.1),(3,.own 0 1 0 s.1.2.length),(0,.int .i64 n)],[⟨9,true,cells aK s.1.2⟩]⟩) (fun s=>64-s.1.1) ⟨(0,[]),vv⟩ (gc [0]) ?_;rintro⟨⟨i,out⟩,hi,ho,hbl⟩;dsimp only at hi ho hbl |-;have hb:(out.length+1)*16<=140737488355328:=vz;have hm:(((1:Nat):Int)*256<=281474976710656)=True:=eq_true vj;have hcw:=fun(hp:Qb) (k o n:Nat)=>pJ (hp:=hp) (k:=k) (off:=o) (len:=n) tK;have hcv:∀hp:Qb,kq hp 0 256 (some (cells a9 (Je 256 0)))=some (.pv (.str (Je 256 0)),hp):=fun hp=>uk vv;have F:=(Ja @hb (Ja @hm (Ja @hcw @hcv)))
 refine rn F ?_
 repeat' (first|with_reducible exact⟨⟩|(refine sB F ?_ ?_<;>intro hZ))
 all_goals first
  | exact⟨⟨(i+1,out++[Je 256 0]),vu,vg,fun b h=>by
   rcases Jv.1 h with h|h
   ·exact hbl b h
   ·exact Jw.1 h⟩,vu,by dsimp only; rw[Jf]; exact(gc [3])⟩
  |exact⟨rfl,rfl,out,rfl,vz,hbl⟩
  |skip
def Ii(a:Dv×Int):Prop:=a.1.ps.length<=64/\∀b∈a.1.ps,b=Je 256 0
end
section
attribute [local go_sem] ba
def zC(v:Dv)(pg:Int)(s:List UInt8)(a:Dv×Int):Prop:=a.1.ps.length<=64/\(a.2=0->(0<=pg/\pg<v.ps.length)/\s.length=256/\a.1.ps=v.ps.set pg.toNat s)
def zD(v:Dv)(pg:Int)(s:List UInt8)(e:Int)(h:e≠0):zC v pg s (Dv0,e):=⟨Jg _,fun q=>absurd q h⟩
def Ij(v:Dv)(hl:v.ps.length<=100000)(pg:Int)(s:List UInt8)(hs0:s.length<=1000000):VCalls prog 106 [.agg v.d,.int .i64 pg,.pv (.str s)] [] (QM dvD (zC v pg s)):=by
 refine dk Tryz.func106 ?_;have c1:=ug v hl pg;refine rn F ?_;refine Qs c1 rfl ?_;rintro e he;by_cases h0:e=0;rotate_left
 ·skip
  have F:=@h0;refine rn F ?_;exact⟨rfl,rfl,(Dv0,e),rfl,zD _ _ _ _ h0⟩
 obtain⟨q1,q2,q3⟩:=he h0;subst h0;have F:=trivial;refine rn F ?_
 repeat' (first|with_reducible exact⟨⟩|(refine sB F ?_ ?_<;>intro hZ))
 all_goals first|exact⟨rfl,rfl,(Dv0,_),rfl,zD _ _ _ _ vj⟩|skip
 obtain⟨i,rfl⟩:∃i:Nat,pg=i:=⟨pg.toNat,vz⟩
 have hi:i<v.ps.length:=vz;have hwr:=q1.2.1;refine zw v hl ?_;unfold lQ cpD;have F:=trivial;refine rn F ?_;refine Qj (fun _:Unit=>⟨166,0,[(11,.int .i64 0),(10,.pv (.slc [])),(9,.ptr 4 0),(6,.ptr 1 0),(3,.ptr 0 0),(2,.pv (.str s)),(1,.int .i64 i)],[⟨75,true,v.d⟩,⟨75,true,[.pv (.slc []),.int .i64 0,.pv (.slc []),.bool false,.pv (.slc [])]⟩,⟨9,true,cells aK v.ps⟩,⟨3,true,[]⟩,⟨75,true,[.own 2 1 0 v.ps.length,.int .i64 (v.wr+1),.own 3 1 0 0,.bool v.dead,.pv (.slc [])]⟩]⟩) (fun _=>0) () (gc [0,1,4,5,7]) ?_;intro _;have F:=trivial;refine rn F ?_;refine Qj (fun _:Unit=>⟨166,0,[(13,.int .i64 0),(12,.bool false),(10,.pv (.slc [])),(9,.ptr 3 0),(6,.ptr 0 0),(2,.pv (.str s)),(1,.int .i64 i)],[⟨75,true,[.pv (.slc []),.int .i64 0,.pv (.slc []),.bool false,.pv (.slc [])]⟩,⟨9,true,cells aK v.ps⟩,⟨3,true,[]⟩,⟨75,true,[.own 1 1 0 v.ps.length,.int .i64 (v.wr+1),.own 2 1 0 0,.bool v.dead,.pv (.slc [])]⟩]⟩) (fun _=>0) () (gc [1,2,3,4]) ?_;intro _;have F:=trivial;refine rn F ?_;refine VCalls.wkA (VCalls.neA ?_);have hpos:0<v.ps.length:=vz;refine rn trivial ?_;simp only[Jz,Jx,DV.ne,zz hpos,zA,zB,DV.wk,DV.wk.go,PV.wk];refine zt 1 (zu v.ps (v.wr+1) v.dead i hi (q1.2.2 i hi) s 256 vz vz) rfl ⟨rfl,Qw _ _ _⟩ (Qw _ _ _) rfl rfl (r2:=dvO 1 v.ps.length (v.wr+1) v.dead) rfl ?_;unfold dvO;have hle:∀x,(v.ps.set i x).length=v.ps.length:=fun x=>Ju;have F:=@hle;refine rn F ?_;have hlL:=hle (s.take 256++(v.ps.getD i []).drop 256);have h256:s.length=256:=vz
 have hLL:v.ps.set i (s.take 256++(v.ps.getD i []).drop 256)=v.ps.set i s:=by
  rw[Jk vz,List.drop_of_length_le (by have:=q1.2.2 i hi;omega),J3]
 generalize v.ps.set i (s.take 256++(v.ps.getD i []).drop 256)=L at *;refine Qj (fun _:Unit=>⟨166,0,[(14,.int .i64 0),(10,.pv (.slc [])),(9,.ptr 2 0),(6,.ptr 0 0)],[⟨75,true,[.pv (.slc []),.int .i64 0,.pv (.slc []),.bool false,.pv (.slc [])]⟩,⟨9,true,cells aK L⟩,⟨75,true,[.own 1 1 0 v.ps.length,.int .i64 (v.wr+1),.pv (.sl []),.bool v.dead,.pv (.sl [])]⟩]⟩) (fun _=>0) () (gc [0,1,3]) ?_;intro _;have F:=@hlL;refine rn F ?_;exact⟨rfl,rfl,(⟨L,v.wr+1,v.dead⟩,0),rfl,by have:=q1.1.2;dsimp only;omega,fun _=>⟨⟨q2,q3⟩,h256,hLL⟩⟩
end
section
attribute [local go_sem] ba
def um(n:Nat)(hn:n<=1000):VCalls prog 138 [.int .i64 n] [] (Ret (.pv (.str (Je n 0)))):=by
 refine dd Tryz.func138 ?_;have hm:(((1:Nat):Int)*(n:Int)<=281474976710656)=True:=eq_true vz;have hm2:((n:Int)*((1:Nat):Int)<=281474976710656)=True:=eq_true vz;have hcw:=fun(hp:Qb) (k o n:Nat)=>pJ (hp:=hp) (k:=k) (off:=o) (len:=n) tK;have hcv:∀hp:Qb,kq hp 0 n (some (cells a9 (Je n 0)))=some (.pv (.str (Je n 0)),hp):=fun hp=>uk vv;have hm3:((0:Int)<=(n:Int)/\(n:Int)<=(n:Int)/\(n:Int)<=9223372036854775807)=True:=eq_true ⟨vz,vz,vz⟩;(refine rn (Ja @hm (Ja @hm2 (Ja @hm3 (Ja @hcw @hcv)))) ?_;try with_reducible exact⟨⟩)
def Ik:VCalls prog 235 [] [] (Ret (.pv (.str (Je 256 0)))):=by
 refine dd Tryz.func235 ?_;have c1:=um 256 vz;refine rn F ?_
 repeat' (first|with_reducible exact⟨⟩|refine vp F (c1) ?_)
def Il(x:Pg)(i:Nat)(h:i<16):x.d[2+i*2+1]?=some (.pv (.str (x.cel i).data)):=by
 have:i=0\/i=1\/i=2\/i=3\/i=4\/i=5\/i=6\/i=7\/i=8\/i=9\/i=10\/i=11\/i=12\/i=13\/i=14\/i=15:=vz;rcases this with h|h|h|h|h|h|h|h|h|h|h|h|h|h|h|h<;>subst h<;>rfl
def zF(h:Q5 p=0)(i:Nat)(hi:i<16):(p.cel i).data.length<=12:=by
 have:=tS h;unfold Pg.okB Pg.celB at this;simp only[Jb,Jl,Jo] at this;have:=this.2 i hi;unfold Pg.celC Ce.okB at this;grind
def iD(c:Ce):List UInt8:=c.data++Je (12-c.data.length) (0:UInt8)
def ceN(c:Ce):Int:=if c.set=true then c.data.length else 255
def cq(t:List UInt8)(p:Pg):Nat->List UInt8
 |0=>t
 |i+1=>Ql (cq t p i) (ceN (p.cel i)) 1++iD (p.cel i)
def fT(p:Pg):List UInt8:=cq (Ql (Ql [] p.lsn 8) p.id 4) p 16++Je (244-(cq (Ql (Ql [] p.lsn 8) p.id 4) p 16).length) (0:UInt8)
def pgB(p:Pg):List UInt8:=Ql (Ql (fT p) (bY (fT p)) 4) p.lsn 8
def nV(p:Pg)(a:List UInt8×Int):Prop:=a.1.length<=256/\(a.2=0->Q5 p=0/\a.1=pgB p)/\(a.1.length=256->a.2=0)
def uo(p:Pg):VCalls prog 105 [.agg p.d] [] (QM siD (nV p)):=by
 refine dd Tryz.func105 ?_;have c1:=lH p;have hcel:=zF (p:=p);by_cases hk:Q5 p=0;rotate_left
 ·unfold nV;generalize Q5 p=k at *;have F:=@hk;refine rn F ?_
  repeat' (first|with_reducible exact⟨⟩|refine vp F (c1) ?_)
  exact⟨rfl,rfl,([],k),rfl,Jg _,fun h=>absurd h hk,fun h=>by simp at h⟩
 rw[hk] at c1;have hcel:=hcel hk;have c2:=Q4 [] vv p.lsn 8 vz vz;have c3:=Q4 (Ql [] p.lsn 8) (by rw[Qe];simp) p.id 4 vz vz;have hl0:(Ql (Ql [] p.lsn 8) p.id 4).length=12:=by rw[Qe,Qe];rfl
 have hQ:∀t,t=pgB p->t.length<=256->nV p (t,0):=fun t h h2=>⟨h2,fun _=>⟨hk,h⟩,fun _=>rfl⟩
 have eP:pgB p=Ql (Ql (cq (Ql (Ql [] p.lsn 8) p.id 4) p 16++Je (244-(cq (Ql (Ql [] p.lsn 8) p.id 4) p 16).length) (0:UInt8)) (bY (cq (Ql (Ql [] p.lsn 8) p.id 4) p 16++Je (244-(cq (Ql (Ql [] p.lsn 8) p.id 4) p 16).length) (0:UInt8))) 4) p.lsn 8/\True:=⟨rfl,trivial⟩
 have F:=trivial;refine rn F ?_
 repeat' (first|with_reducible exact⟨⟩|refine vp F (c1) ?_|refine vp F (c2) ?_|refine vp F (c3) ?_)
 generalize Ql (Ql [] p.lsn 8) p.id 4=s0 at *;refine Qj (fun s:{s:Nat×List UInt8 // (s.1<=16/\s.2.length=12+13*s.1)/\s.2=cq s0 p s.1}=>⟨69,0,[(6,.int .i64 s.1.1),(5,.pv (.str s.1.2)),(1,.ptr 0 0)],[⟨175,true,p.d⟩]⟩) (fun s=>16-s.1.1) ⟨(0,s0),by simp;exact hl0,rfl⟩ (gc [0]) ?_;rintro⟨⟨i,t⟩,⟨hi,ht⟩,hte⟩;dsimp only at hi ht hte |-;have hg:=fun h:i<16=>qb p i h;have hg0:=fun h:i<16=>yi p i h;have hg1:=fun h:i<16=>Il p i h;have hdl:=fun h:i<16=>hcel i h;by_cases hi16:i<16
 ·have es:cq s0 p (i + 1) = Ql t (ceN (p.cel i)) 1 ++ iD (p.cel i):=by rw [hte];rfl
  obtain⟨t2,h2⟩:∃t2,t2=cq s0 p (i+1):=⟨_,rfl⟩
  rw[<-h2] at es;clear eP hQ hte;generalize p.cel i=c at *;unfold ceN iD at es;have d1:=fun n=>Q4 t vz n 1 vz vz;have hpl:=fun n=>Qe t n 1;have hdl:=hdl hi16;have d2:=um (12-c.data.length) vz;rw[show((12-c.data.length:Nat):Int)=12-(c.data.length:Int) by omega] at d2;have hcd:(c.data++Je (12-c.data.length) (0:UInt8)).length=12:=by rw[Jf,Jy];omega
  have hadd:=fun n=>ji (a:=Ql t n 1) (b:=c.data++Je (12-c.data.length) (0:UInt8)) (by rw[hpl,hcd];omega);have hl2:t2.length=12+13*(i+1):=by rw[es,Jf,hpl,hcd];omega
  have F:=(Ja @hg (Ja @hg0 (Ja @hg1 @hadd)))
  refine rn F ?_
  repeat' (first|with_reducible exact⟨⟩|(refine sB F ?_ ?_<;>intro hZ)|refine vp F (d1 _) ?_|refine vp F (d2) ?_|(refine Qf (id:=13) [0,1,2,3,4,5,6,7,8,9,10,11,12] [⟨[],[],13,[0,1,2,3,4,5,6,7,8,9,10,11],[14,15]⟩,⟨[],[],16,[],[]⟩] vw vw ?_;refine rn F ?_))
  all_goals
   have hset:=hZ
   first|rw[if_pos (by first|exact hset|assumption)] at es|rw[if_neg (by first|exact hset|assumption|simp_all)] at es
   rw[<-es];clear es;exact⟨⟨(i+1,t2),⟨hi16,hl2⟩,h2⟩,vu,(gc [0])⟩
 ·have hi:i = 16:=vz;subst hi;unfold nV at hQ;rw[<-hte] at eP;clear hte;have d2:=um (244-t.length) vz;rw[show((244-t.length:Nat):Int)=244-(t.length:Int) by omega] at d2;have hle:(t++Je (244-t.length) (0:UInt8)).length=244:=by rw[Jf,Jy];omega
  obtain⟨u,hu⟩:∃u,t++Je (244-t.length) (0:UInt8)=u:=⟨_,rfl⟩
  rw[hu] at hle eP;have d3:=pN u vz;have d4:=fun n=>Q4 u vz n 4 vz vz;have hu4:=fun n=>Qe u n 4;have d5:=fun n m=>Q4 (Ql u n 4) (by rw[hu4];omega) m 8 vz vz;have F:=@hu;refine rn F ?_
  repeat' (first|with_reducible exact⟨⟩|refine vp F (d2) ?_|refine vp F (d3) ?_|refine vp F (d4 _) ?_|refine vp F (d5 _ _) ?_)
  have hsw:IntKind.i64.wrap (bY u)=bY u:=by have:=pM u;rw[IntKind.wrap_i64];omega
  exact⟨rfl,rfl,(Ql (Ql u _ 4) _ 8,0),rfl,hQ _ (by rw[hsw];exact eP.1.symm) (by rw[Qe,hu4];omega)⟩
end
section
attribute [local go_sem] ba
@[go_sem] def piD(a:Pg×Int):DV:=.tup [.agg a.1.d,.int .i64 a.2]
def Im(n:Int):VCalls prog 211 [.int .i64 n] [] (Ret (.agg (Pg.d ⟨n,0,fun _=>Ce0⟩))):=by
 refine dd Tryz.func211 ?_;refine rn F ?_;rfl
def RdP(s:List UInt8)(x:Pg):Prop:=Q5 x=0/\pgB x=s
def RdS(s:List UInt8)(n:Int)(x:Pg):Prop:=x.id=n/\((s=Je 256 0/\x=⟨n,0,fun _=>Ce0⟩)\/RdP s x)
def zG(s:List UInt8)(a:Pg×Int):Prop:=(a.2=0->RdP s a.1)/\(a.2=7->s=Je 256 0)
def Io(s:List UInt8)(hs:s.length<=1000000):VCalls prog 210 [.pv (.str s)] [] (QM piD (zG s)):=by
 refine dd Tryz.func210 ?_;unfold zG RdP;have c1:=Ik;refine rn F ?_;by_cases hl:s.length=256;rotate_left
 ·have hl':¬(s.length:Int) = 256:=vz;have F:=@hl';refine rn F ?_;exact⟨rfl,rfl,(Pg0,2),rfl,fun h=>by simp at h,fun h=>by simp at h⟩
 have c2:=fun(a k:Nat) (h:1<=k/\k<=8) (hh:a+k<=s.length)=>lr s vz a k h hh;have g1:=c2 244 4 vz vz;have g2:=c2 0 8 vz vz;have g3:=c2 8 4 vz vz;have c3:=fun u h=>pN u h;have c4:=uo;unfold nV at c4;have F:=@hl;refine rn F ?_
 repeat' (first|with_reducible exact⟨⟩|(refine sB F ?_ ?_<;>intro hZ)|refine vp F (c1) ?_|refine vp F (g1) ?_|refine vp F (g2) ?_|refine vp F (g3) ?_|(refine vp F (c3 _ vg) ?_)|(refine Qf (id:=5) [0,1,2,3,4] [⟨[],[],5,[0,1,2,3],[]⟩] vw vw ?_;refine rn F ?_))
 all_goals first|exact⟨rfl,rfl,(Pg0,_),rfl,fun h=>by simp at h,fun h=>by first|assumption|simp at h⟩|skip
 refine Qj (fun r:{r:Nat×Pg // r.1<=16}=>⟨95,0,[(7,.int .i64 r.1.1),(6,.ptr 1 0),(2,.ptr 0 0),(0,.pv (.str s))],[⟨175,true,Pg0.d⟩,⟨175,true,r.1.2.d⟩]⟩) (fun r=>16-r.1.1) ⟨(0,⟨IntKind.i64.wrap (aW s 8 4),IntKind.i64.wrap (aW s 0 8),fun _=>Ce0⟩),vv⟩ (gc [0,1]) ?_;rintro⟨⟨i,p⟩,hi⟩;dsimp only at hi |-;have hgs:i<16->s[12+i*13]?=some (s.getD (12+i*13) 0):=fun h=>by rw[Jd,JB vz];rfl
 have hix:(12+(i:Int)*13).toNat=12+i*13:=vz;have hce:=fun(h:i<16) b d=>uf p i h ⟨b,d⟩;generalize hq:s.getD (12+i*13) 0=q at *;have hqb:=q.toNat_lt;have c5:=c4 p;have F:=(Ja @hgs (Ja @hix (Ja @hce @hl)))
 refine rn F ?_
 repeat' (first|with_reducible exact⟨⟩|(refine sG F ?_ ?_<;>intro hZ)|(refine sB F ?_ ?_<;>intro hZ)|(refine Qs (c5) rfl ?_;rintro⟨t,e⟩ htq;refine rn F ?_))
 all_goals first|exact⟨rfl,rfl,(Pg0,_),rfl,fun h=>by simp at h,fun h=>by simp at h⟩|exact⟨rfl,rfl,(p,0),rfl,fun _=>⟨(htq.2.1 vu).1,(htq.2.1 vu).2.symm.trans vq⟩,fun h=>by simp at h⟩|exact⟨⟨(i+1,p),vu⟩,vu,(gc [0,1])⟩|exact⟨⟨(i+1,p.setc i ⟨true,List.drop (12+(i:Int)*13+1).toNat (List.take (12+(i:Int)*13+1+q.toNat).toNat s)⟩),vu⟩,vu,(gc [0,1])⟩|skip
def Ip(s:List UInt8)(hs:s.length<=1000000)(n:Int):VCalls prog 163 [.pv (.str s),.int .i64 n] [] (QM piD fun a=>a.2=0->RdS s n a.1):=by
 refine dd Tryz.func163 ?_;unfold RdS;have c1:=Io s hs;have c2:=Im n;refine rn F ?_
 repeat' (first|with_reducible exact⟨⟩|(refine sG F ?_ ?_<;>intro hZ)|(refine sB F ?_ ?_<;>intro hZ)|(refine Qs (c1) rfl ?_;rintro⟨p,e⟩ hq;refine rn F ?_)|refine vp F (c2) ?_)
 all_goals first|exact⟨rfl,rfl,(Pg0,_),rfl,fun h=>by simp at h⟩|exact⟨rfl,rfl,(⟨n,0,fun _=>Ce0⟩,0),rfl,fun _=>⟨rfl,.inl ⟨hq.2 vu,rfl⟩⟩⟩|exact⟨rfl,rfl,(p,e),rfl,fun h=>⟨by dsimp only at h |-;omega,.inr (hq.1 h)⟩⟩|skip
def Iq(l:List Rw)(hl:l.length<=64)(n hd:Int)(s:List UInt8)(hs:s.length<=1000000):VCalls prog 119 [.agg [.pv (.sl (fz ay l))],.int .i64 n,.int .i64 hd,.pv (.str s)] [] (QM piD fun a=>a.2=0->RdS s n a.1):=by
 refine dd Tryz.func119 ?_;have c1:=lK l vz;have c2:=Ip s hs n;have hg:=fun h:n.toNat<l.length=>nL l n.toNat h;generalize ixB l=b at *;have F:=@hg;refine rn F ?_
 repeat' (first|with_reducible exact⟨⟩|(refine sG F ?_ ?_<;>intro hZ)|(refine sB F ?_ ?_<;>intro hZ)|refine vp F (c1) ?_|(refine Qs (c2) rfl ?_;rintro⟨p,e⟩ hp;refine rn F ?_)|(refine Qf (id:=8) [0,1,2,3,4,5,6,7,8,9,10,11,12,13,14] [⟨[],[],15,[0,1,2,3,5,6,7,8,9,10,11,12,13],[]⟩] vw vw ?_;refine rn F ?_)|(refine Qf (id:=10) [0,1,2,3,4,5,6,7,8] [⟨[],[],9,[0,1,2,3,4,5,6,7],[]⟩] vw vw ?_;refine rn F ?_))
 all_goals first|exact⟨rfl,rfl,(Pg0,e),rfl,fun h=>absurd h vq⟩|(focus (refine⟨rfl,rfl,(Pg0,_),rfl,fun h=>?_⟩;simp at h;done))|exact⟨rfl,rfl,(p,0),rfl,fun _=>hp vu⟩|skip
end
section
attribute [local go_sem] ba
theorem Ir(e:E)(l:List E):(.pv (.lit (.int .i64 e.lsn))::.pv (.lit (.int .i64 e.kind))::.pv (.lit (.int .i64 e.tx))::.pv (.lit (.int .i64 e.ptx))::.pv (.lit (.int .i64 e.ppg))::.pv (.lit (.int .i64 e.ref))::.pv (.lit (.int .i64 e.c.pg))::.pv (.lit (.int .i64 e.c.sl))::.pv (.lit (.bool e.c.b.set))::.pv (.str e.c.b.data)::.pv (.lit (.bool e.c.a.set))::.pv (.str e.c.a.data)::.pv (.str e.blob)::cells encE l:List DV)=cells encE (e::l):=rfl
def Is(e:E)(l:List E)(hl:l.length<=100000):VCalls prog 239 [.agg e.d,.pv (.sl (fz encE l))] [] (Ret (.pv (.sl (fz encE (e::l))))):=by
 refine dk Tryz.func239 ?_;have hc:=Ir e l;have hb:(1+l.length)*128<=140737488355328:=vz;have hlen:(e::l).length=1+l.length:=vg;(refine rn (Ja @hc (Ja @hb @hlen)) ?_;try with_reducible exact⟨⟩)
@[go_sem] def esD(a:List E×Int):DV:=.tup [.pv (.sl (fz encE a.1)),.int .i64 a.2]
def qI{x:Lg}{n:Int}(h:(ah x n).2=0):lgB x=true/\x.f<=n/\n<=x.end_/\(ah x n).1.lsn=n/\(ah x n).1.okB=true:=by
 unfold ah at h |-;split at h
 ·simp at h
 rename_i q1;split at h
 ·simp at h
 rename_i q2;rw[if_neg q1,if_neg q2];have hv:lgB x=true:=by simpa using q1
 have hv2:=hv;unfold lgB at hv2;simp only[Jb,Jl,Jo] at hv2;have hd:=hv2.1;simp only[decide_eq_true_eq,Lg.hd] at hd;have:=hv2.2 (n-x.f).toNat (by simp only[Lg.end_] at q2;omega);unfold lgC at this;grind
def Iu{e:E}(h:e.okB=true):0<=e.ppg/\e.ppg<e.lsn:=by
 unfold E.okB bef at h;grind
def Iv(h:(ah x n).2=0):(ah x n).1∈x.es:=by
 obtain⟨h1,h2,h3,h4,_⟩:=qI h;unfold ah;rw[if_neg (by rw[h1];decide),if_neg vz];dsimp only;unfold Lg.end_ at h3;grind
structure Ch7(x:Lg) where
 at_:Int
 out:List E
 ok:out=[]\/at_+out.length<=x.f+x.es.length
 nn:0<=at_
 le:out.length<=4097
 mem:∀e∈out,e∈x.es
def Iw(x:Lg)(hx:x.es.length<=4096)(pg last above:Int):VCalls prog 236 [.agg x.c,.int .i64 pg,.int .i64 last,.int .i64 above] [] (QM esD fun a=>a.1.length<=4097/\∀e∈a.1,e∈x.es):=by
 refine dk Tryz.func236 ?_;have c1:=fS x vz;have c2:=lJ x vz;have hok:=@qI x;refine rn F ?_;cases hv:lgB x
 ·rw [hv] at c1;refine rn F ?_
  repeat' (first|with_reducible exact⟨⟩|refine vp F (c1) ?_)
  exact⟨rfl,rfl,([],26),rfl,Jg _,fun e h=>by simp at h⟩
 rw[hv] at c1;have hd:=bz hv;simp only[Lg.hd] at hd;refine rn F ?_
 repeat' (first|with_reducible exact⟨⟩|(refine sG F ?_ ?_<;>intro hZ)|(refine sB F ?_ ?_<;>intro hZ)|refine vp F (c1) ?_)
 all_goals first|exact⟨rfl,rfl,([],1),rfl,Jg _,fun e h=>by simp at h⟩|skip
 refine VLoop.wkS ?_;refine rn trivial ?_;refine Qj (fun s:Ch7 x=>⟨62,0,[(11,.int .i64 s.at_),(10,.pv (.sl (fz encE s.out))),(4,.ptr 0 0),(3,.int .i64 above),(1,.int .i64 pg)],[⟨26,true,x.c⟩]⟩) (fun s=>s.at_.toNat) ⟨last,[],.inl rfl,vz,Jg _,fun e h=>by simp at h⟩ (gc [0]) ?_;rintro⟨at_,out,ok,nn,le,mem⟩;dsimp only;have c3:=c2 at_;have hok:=hok (n:=at_);have hme:=Iv (x:=x) (n:=at_);generalize ah x at_=g at *;have c4:=nu g.1;have c5:=Is g.1 out vz;refine rn F ?_
 repeat' (first|with_reducible exact⟨⟩|(refine sG F ?_ ?_<;>intro hZ)|(refine sB F ?_ ?_<;>intro hZ)|refine vp F (c3) ?_|refine vp F (c4) ?_|refine vp F (c5) ?_|(refine Qf (id:=13) [0,1,3,4] [⟨[],[],2,[3,4],[]⟩,⟨[],[],5,[3,4],[]⟩,⟨[],[],6,[],[]⟩] vw vw ?_;refine rn F ?_))
 all_goals first|exact⟨rfl,rfl,([],_),rfl,Jg _,fun e h=>by simp at h⟩|exact⟨rfl,rfl,(out,0),rfl,le,mem⟩|skip
 obtain⟨k1,k2,k3,k4,k5⟩:=hok vz;have hp:=Iu k5;simp only[Lg.end_] at k3
 have ho:at_+out.length<=x.f+x.es.length:=by
  rcases ok with rfl|ok
  ·simp;omega
  ·exact ok
 exact⟨⟨g.1.ppg,g.1::out,.inr (by simp only[Jn]; omega),hp.1,by simp only[Jn]; omega,fun e he=>by
  rcases J5.1 he with rfl|he
  ·exact hme vz
  ·exact mem e he⟩,vu,(gc [0])⟩
def Ix(c:Ch):VCalls prog 168 [.agg c.d] [] (Ret (.agg (Ch.d ⟨c.pg,c.sl,c.a,c.b⟩))):=by
 refine dd Tryz.func168 ?_;(refine rn F ?_;try with_reducible exact⟨⟩)
def Iy{c:Ch}(h:c.okB=true):0<=c.sl/\c.sl<16:=by
 unfold Ch.okB at h;grind
def zH{a b:Ce}(h:a.set=b.set/\a.data=b.data):a=b:=by
 obtain⟨_,_⟩:=a;obtain⟨_,_⟩:=b;obtain⟨rfl,rfl⟩:=h;rfl
def zI(a c:Bool)(b d:List UInt8):QZ [.pv (.lit (.bool a)),.pv (.str b)] [.pv (.lit (.bool c)),.pv (.str d)] [(0,0),(1,2)]=some (a==c&&b==d):=by simp[QZ,bK]
def zJ (p:Pg) (c:Ch):VCalls prog 169 [.agg p.d,.agg c.d] [] (QM piD fun a=>a.2 = 0->a.1.id = p.id/\p.cel c.sl.toNat = c.b/\a.1 = p.setc c.sl.toNat c.a/\c.pg = p.id):=by
 refine dd Tryz.func169 ?_;have c1:=xQ c;have hs:=Iy (c:=c);refine rn F ?_;cases hv:c.okB
 ·rw [hv] at c1;refine rn F ?_
  repeat' (first|with_reducible exact⟨⟩|refine vp F (c1) ?_)
  exact⟨rfl,rfl,(Pg0,22),rfl,fun h=>by simp at h⟩
 rw[hv] at c1;obtain⟨s1,s2⟩:=hs hv;obtain⟨i,hi⟩:∃i:Nat,c.sl=i:=⟨c.sl.toNat,vz⟩
 have hi16:i<16:=vz;have hg:=qb p i hi16;have hce:=uf p i hi16 c.a;have F:=(Ja @hi (Ja @hg (Ja @hce @zI)))
 refine rn F ?_
 repeat' (first|with_reducible exact⟨⟩|(refine sB F ?_ ?_<;>intro hZ)|refine vl F (c1) ?_|(refine Qf (id:=5) [0,1,2,3,4,5,6,7] [⟨[],[],8,[0,1,2,3,4,5,6],[]⟩] vw vw ?_;refine rn F ?_))
 all_goals first
  | (have ei:c.sl.toNat = i:=vz
     exact⟨rfl,rfl,(p.setc i c.a,0),rfl,fun _=>⟨rfl,by first | exact zH vq | (rw[ei]; exact zH vq),by first | rfl | rw[ei],wz⟩⟩)
  |(focus (refine⟨rfl,rfl,(Pg0,_),rfl,fun h=>?_⟩;simp at h;done))
  |skip
def zK(p:Pg)(e:E)(a:Pg×Int):Prop:=a.2=0->(e.kind=1\/e.kind=2)/\e.c.pg=p.id/\e.ppg=p.lsn/\a.1=⟨p.id,e.lsn,(p.setc e.c.sl.toNat e.c.a).cel⟩
def Iz (p:Pg) (e:E):VCalls prog 213 [.agg p.d,.agg e.d] [] (QM piD (zK p e)):=by
 refine dd Tryz.func213 ?_;unfold zK;have c1:=jY e;have c2:=nu e;have c3:=lH p;have c4:=zJ p e.c;generalize e.okB=b at *;generalize Q5 p=k at *;refine rn F ?_
 repeat' (first|with_reducible exact⟨⟩|(refine sG F ?_ ?_<;>intro hZ)|(refine sB F ?_ ?_<;>intro hZ)|refine vp F (c1) ?_|refine vp F (c2) ?_|refine vp F (c3) ?_|(refine Qs (c4) rfl ?_;rintro⟨q,er⟩ hq;refine rn F ?_))
 all_goals first
  | (obtain ⟨g1,g2,g3,g4⟩:=hq vu
     dsimp only at g1 g3
     exact⟨rfl,rfl,(⟨q.id,e.lsn,q.cel⟩,0),rfl,fun _=>⟨by first | omega | simp_all,wz,wz,by dsimp only; rw[g3]; rfl⟩⟩)
  |exact⟨rfl,rfl,(Pg0,er),rfl,fun h=>absurd h vq⟩
  |exact⟨rfl,rfl,(Pg0,k),rfl,fun h=>absurd h vq⟩
  |(focus (refine⟨rfl,rfl,(Pg0,_),rfl,fun h=>?_⟩;simp at h;done))
  |skip
def IA(x:Lg)(hx:x.es.length<=4096)(p:Pg)(n:Int):VCalls prog 212 [.agg x.c,.agg p.d,.int .i64 n] [] (QM esD fun a=>a.1.length<=4097/\∀e∈a.1,e∈x.es):=by
 refine dk Tryz.func212 ?_;have c1:=fS x vz;have c2:=lH p;have c3:=Iw x hx;generalize lgB x=b at *;generalize Q5 p=k at *;refine rn F ?_
 repeat' (first|with_reducible exact⟨⟩|(refine sB F ?_ ?_<;>intro hZ)|refine vp F (c1) ?_|refine vp F (c2) ?_|(refine Qs (c3 _ _ _) rfl ?_;rintro⟨l,e⟩ hl;refine rn F ?_))
 all_goals first|exact⟨rfl,rfl,([],_),rfl,Jg _,fun e h=>by simp at h⟩|exact⟨rfl,rfl,(l,e),rfl,hl⟩|skip
inductive RedoR (x:Lg) (p:Pg):Pg->Prop
 |refl:RedoR x p p
 |step {q:Pg} {e:E}:RedoR x p q->e∈x.es->(e.kind=1\/e.kind=2)->e.c.pg=q.id->e.ppg=q.lsn->RedoR x p ⟨q.id,e.lsn,(q.setc e.c.sl.toNat e.c.a).cel⟩
def RedoR.id(h:RedoR x p q):q.id=p.id:=by
 induction h with
 |refl=>rfl
 |step _ _ _ _ _ ih=>exact ih
@[go_sem] def IB(a:Pg×Int×Int):DV:=.tup [.agg a.1.d,.int .i64 a.2.1,.int .i64 a.2.2]
def IC (x:Lg) (hx:x.es.length<=4096) (p:Pg) (n:Int):VCalls prog 164 [.agg x.c,.agg p.d,.int .i64 n] [] (QM IB fun a=>a.2.2 = 0->RedoR x p a.1):=by
 refine dk Tryz.func164 ?_;have c1:=IA x hx p n;refine rn F ?_
 repeat' (first|with_reducible exact⟨⟩|(refine sB F ?_ ?_<;>intro hZ)|(refine Qs (c1) rfl ?_;rintro⟨l,e⟩ hl;refine rn F ?_))
 all_goals first|exact⟨rfl,rfl,(Pg0,0,e),rfl,fun h=>absurd h vq⟩|skip
 dsimp only at hl;refine Qj (fun s:{s:Nat×Pg // s.1<=l.length/\RedoR x p s.2}=>⟨45,0,[(11,.int .i64 s.1.1),(9,.pv (.sl (fz encE l))),(6,.ptr 1 0),(4,.ptr 0 0)],[⟨175,true,s.1.2.d⟩,⟨175,true,Pg0.d⟩]⟩) (fun s=>l.length-s.1.1) ⟨(0,p),Jg _,.refl⟩ (gc [1,2]) ?_;rintro⟨⟨i,q⟩,hi,hq⟩;dsimp only at hi hq |-;have hg:=fun h:i<l.length=>jf l i h;have c2:=Iz q (l.getD i E0);have hml:=fun h:i<l.length=>hl.2 (l.getD i E0) (by rw[Qd l i h];exact Ji h);have F:=@hg;refine rn F ?_
 repeat' (first|with_reducible exact⟨⟩|(refine sB F ?_ ?_<;>intro hZ)|(refine Qs (c2) rfl ?_;rintro⟨q2,e2⟩ hq2;refine rn F ?_)|(refine Qf (id:=7) [0,1,2,3,4] [⟨[],[],5,[1,2,3],[6,7,8]⟩,⟨[],[],9,[8],[]⟩,⟨[],[],10,[],[]⟩] vw vw ?_;refine rn F ?_))
 all_goals first
  |exact⟨rfl,rfl,(Pg0,0,e2),rfl,fun h=>absurd h vq⟩
  |exact⟨rfl,rfl,(q,l.length,0),rfl,fun _=>hq⟩
  | (obtain ⟨a1,a2,a3,a4⟩:=hq2 vu
     dsimp only at a4
     exact⟨⟨(i+1,q2),vu,by dsimp only; rw[a4]; exact hq.step (hml vz) a1 a2 a3⟩,vu,(gc [0,1])⟩)
  |skip
def ID(x:Lg)(hx:x.es.length<=4096)(p:Pg)(n:Int):VCalls prog 120 [.agg x.c,.agg p.d,.int .i64 n] [] (QM piD fun a=>a.2=0->RedoR x p a.1):=by
 refine dd Tryz.func120 ?_;have c1:=IC x hx p n;refine rn F ?_
 repeat' (first|with_reducible exact⟨⟩|(refine Qs (c1) rfl ?_;rintro⟨q,m,e⟩ hq;refine rn F ?_))
 exact⟨rfl,rfl,(q,e),rfl,hq⟩
end
section
attribute [local go_sem] ba
structure Sv where
 k:Kn
 v:Dv
@[go_sem] def Sv.d(s:Sv):List DV:=[.int .i64 s.k.pg,.int .i64 s.k.nx,.int .i64 s.k.lg.f,.pv (.sl (fz encE s.k.lg.es)),.int .i64 s.k.lg.d,.int .i64 s.k.pl.size,.pv (.sl (fz aA s.k.pl.fs)),.int .i64 s.k.pl.hand,.pv (.sl (fz aj s.k.lk.held)),.pv (.sl (fz aj s.k.lk.wait)),.pv (.sl (fz ai s.k.tx)),.pv (.sl (fz ay s.k.ix)),.pv (.sl (fz aF s.k.la)),.pv (.sl (fz aK s.v.ps)),.int .i64 s.v.wr,.pv (.sl []),.bool s.v.dead,.pv (.sl [])]
def Sv0:Sv:=⟨Kn0,Dv0⟩
def Sv.sm(s:Sv):Prop:=s.k.sm/\s.v.ps.length<=64
def fU:Sv0.sm:=⟨dy,Jg _⟩
@[go_sem] def svD(a:Sv×Int):DV:=.tup [.agg a.1.d,.int .i64 a.2]
def Zv:List DV:=[.int .i64 0,.int .i64 0,.int .i64 0,.pv (.slc []),.int .i64 0,.int .i64 0,.pv (.slc []),.int .i64 0,.pv (.slc []),.pv (.slc []),.pv (.slc []),.pv (.slc []),.pv (.slc []),.pv (.slc []),.int .i64 0,.pv (.slc []),.bool false,.pv (.slc [])]
inductive Sst:Nat->Sv->Sv->Prop
 |refl {n:Nat} (s:Sv):Sst n s s
 |kern {n m:Nat} {s s1:Sv} {k':Kn}:Sst n s s1->Stp m s1.k k'->Sst (n+m) s ⟨k',s1.v⟩
 |put {n:Nat} {s s1:Sv} {x0 x:Pg} {k':Kn}:Sst n s s1->(0<=x.id/\x.id<s1.v.ps.length)->RdS (s1.v.ps.getD x.id.toNat []) x.id x0->RedoR s1.k.lg x0 x->PutK s1.k x k'->Sst n s ⟨k',s1.v⟩
 |dev {n:Nat} {s s1:Sv} {f:Fm} {v':Dv}:Sst n s s1->f∈s1.k.pl.fs->(f.pg.lsn<=s1.k.lg.end_->f.pg.lsn<=s1.k.lg.d)->Q5 f.pg=0->(0<=f.pg.id/\f.pg.id<s1.v.ps.length)->v'.ps=s1.v.ps.set f.pg.id.toNat (pgB f.pg)->Sst n s ⟨s1.k,v'⟩
def Sst.mono (h:Sst n s t) (hm:n<=m):Sst m s t:=by
 induction h generalizing m with
 |refl s=>exact .refl s
 |@kern n p s s1 k' h1 h2 ih =>
   have:=(ih (m:=m-p) vz).kern h2;rwa [JR vz] at this
 |put _ h1 h2 h3 h4 ih=>exact(ih hm).put h1 h2 h3 h4
 |dev _ h1 h2 h3 h4 h5 ih=>exact(ih hm).dev h1 h2 h3 h4 h5
def Sst.trans(h:Sst n a b)(g:Sst m b c):Sst (n+m) a c:=by
 induction g with
 |refl k=>exact h.mono vz
 |kern h1 h2 ih=>rw[<-J6];exact(ih h).kern h2
 |put _ h1 h2 h3 h4 ih=>exact(ih h).put h1 h2 h3 h4
 |dev _ h1 h2 h3 h4 h5 ih=>exact(ih h).dev h1 h2 h3 h4 h5
def Sst.tr0(h:Sst 0 a b)(g:Sst n b c):Sst n a c:=by have:=h.trans g;rwa [JV] at this
def Sst.tr(h:Sst n a b)(g:Sst 0 b c):Sst n a c:=h.trans g
def Str.sv(h:Str n k k')(v:Dv):Sst n ⟨k,v⟩ ⟨k',v⟩:=by
 induction h with
 |refl k=>exact .refl _
 |step _ h2 ih=>exact ih.kern (s1:=⟨_,v⟩) h2
def Sst.st(h:Sst n s s1)(g:Str m s1.k k'):Sst (n+m) s ⟨k',s1.v⟩:=h.trans (g.sv s1.v)
def Sst.st0(h:Sst n s s1)(g:Str 0 s1.k k'):Sst n s ⟨k',s1.v⟩:=h.st g
def PutK.lg(h:PutK k x k'):k'.lg=k.lg:=by cases h<;>rfl
def Sst.ev(h:Sst n s s'):Ev s.k.lg s'.k.lg:=by
 induction h with
 |refl k=>exact Ev.refl _
 |kern _ h2 ih=>exact ih.trans h2.ev
 |put _ _ _ _ h4 ih=>dsimp only;rw[h4.lg];exact ih
 |dev _ _ _ _ _ _ ih=>exact ih
def uq(s:Sv)(k:Kn)(x:Pg)(a:Sv×Int):Prop:=a.1.sm/\(a.2=0->(∃e',AddOk k (zm x.id x.lsn) e'/\a.1.k.tx=k.tx/\(0<=bg k.pl x.id->a.1.k=k.wrt e'/\(bR k.pl x.id x.lsn).2=0))/\Q5 x=0/\(0<=x.id/\x.id<s.v.ps.length)/\a.1.v.ps=s.v.ps.set x.id.toNat (pgB x))
def zL(hq:uq s k x a)(h:a.2=0)(hp:plB k.pl=true)(hi:i<k.pl.fs.length)(hid:idF k.pl.fs x.id=i)(hx:(k.pl.fs.getD i Fm0).pg=x)(hu:(k.pl.fs.getD i Fm0).dirty=true)(hF:x.lsn<=k.lg.end_->x.lsn<=k.lg.d):Sst 0 ⟨k,s.v⟩ a.1/\a.1.k.pl=(bR k.pl x.id x.lsn).1/\a.1.k.tx=k.tx:=by
 obtain⟨⟨e',ha,h1,h2⟩,g1,g2,g3⟩:=hq.2 h;have hf:bg k.pl x.id=i:=by unfold bg;rw[if_pos hp];exact hid
 obtain⟨h3,h4⟩:=h2 (by rw[hf];omega);obtain⟨_,_,s3,s4,_⟩:=ha.2.1;refine⟨?_,?_,h1⟩
 ·obtain ⟨⟨ak,av⟩,ae⟩:=a;dsimp only at h3 g3 |-;subst h3;have hm:k.pl.fs.getD i Fm0∈k.pl.fs:=by rw[Qd _ _ hi];exact Ji hi
  have d1:Sst 0 ⟨k,s.v⟩ ⟨k,av⟩:=(Sst.refl ⟨k,s.v⟩).dev hm (by rw[hx];exact hF) (by rw[hx];exact g1) (by rw[hx];exact g2) (by rw[hx];exact g3);exact d1.kern (m:=0) (.wrt ha rfl ⟨i,hi,hid,by rw[hx];rfl,h4,hu⟩)
 rw[h3];unfold Kn.wrt;rw[s3,s4];rfl
def zM (s:Sv) (hs:s.v.ps.length<=64) (k:Kn) (hk:k.sm) (x:Pg):VCalls prog 83 [.agg s.d,.agg k.d,.agg x.d] [] (QM svD (uq s k x)):=by
 refine dk Tryz.func83 ?_;have c1:=uo x;have c2:=fun(t:List UInt8) (h:t.length<=256)=>Ij s.v vz x.id t vz;have c3:=HP k hk x.id x.lsn;refine rn F ?_
 repeat' (first|with_reducible exact⟨⟩|(refine sB F ?_ ?_<;>intro hZ)|(refine Qs (c1) rfl ?_;rintro⟨t,e1⟩ ht;refine rn F ?_)|(refine Qs (c2 t ht.1) rfl ?_;rintro⟨v1,e2⟩ hv;refine rn F ?_)|(refine Qs (c3) rfl ?_;rintro⟨k1,e3⟩ hq;refine rn F ?_))
 all_goals first
  |exact⟨rfl,rfl,(Sv0,e2),rfl,fU,fun h=>absurd h vq⟩
  |exact⟨rfl,rfl,(Sv0,e3),rfl,fU,fun h=>absurd h vq⟩
  | (have q:=hq.2 vu
     have g:=hv.2 vu;have gp:=ht.2.1 (ht.2.2 g.2.1);dsimp only at g gp
     exact⟨rfl,rfl,(⟨k1,v1⟩,0),rfl,⟨hq.1,hv.1⟩,fun _=>⟨q,gp.1,g.1,by rw[<- gp.2]; exact g.2.2⟩⟩)
  |skip
def fV(l:List Fm):Nat:=l.countP (·.dirty)
def zN(l:List Fm):fV (l.map Fm.clr)=fV l:=by
 unfold fV;rw[List.countP_map];rfl
def SameF.dirty(h:SameF l m):fV m=fV l:=by
 rw[<-zN m,<-zN l,show m.map Fm.clr=l.map Fm.clr from h]
def IE(l:List Fm)(i:Nat)(h:i<l.length)(hu:(l.getD i Fm0).dirty=true)(f:Fm)(hf:f.dirty=false):fV (l.set i f)<fV l:=by
 unfold fV;grind
def IF(hp:plB p=true)(hi:i<p.fs.length)(h1:idF p.fs x.id=i)(h2:(p.fs.getD i Fm0).pg=x)(h3:(p.fs.getD i Fm0).dirty=true):fV (bR p x.id x.lsn).1.fs<fV p.fs:=by
 unfold bR;rw[if_neg (by rw[hp];decide),h1,if_neg vz,Jh,h2,if_neg vz,if_neg (by rw[h3];decide)];refine IE _ _ hi h3 _ ?_;unfold iA;grind
def stQ(s:Sv)(a:Sv×Int):Prop:=a.1.sm/\(a.2=0->Sst 0 s a.1/\a.1.k.tx=s.k.tx)
structure Rm(s0:Sv) where
 s:Sv
 sm:s.sm
 ev:Sst 0 s0 s
 tx:s.k.tx=s0.k.tx
def IG(s:Sv)(hs:s.sm):VCalls prog 116 [.agg s.d] [] (QM svD (stQ s)):=by
 refine dk Tryz.func116 ?_;refine rn F ?_;refine Qj (fun r:Rm s=>⟨36,0,[(2,.ptr 1 0),(1,.ptr 0 0)],[⟨77,true,r.s.d⟩,⟨77,true,Zv⟩]⟩) (fun r=>fV r.s.k.pl.fs) ⟨s,hs,Sst.refl _,rfl⟩ (gc [0,1]) ?_;rintro⟨s1,sm,ev,tx⟩;dsimp only;have c1:=HK s1.k sm.1;have c2:=fun k hk x=>zM s1 sm.2 k hk x;unfold Zv;refine rn F ?_
 repeat' (first|with_reducible exact⟨⟩|(refine sB F ?_ ?_<;>intro hZ)|(refine Qs (c1) rfl ?_;rintro⟨k1,x,b,e⟩ hq;refine rn F ?_)|(refine Qs (c2 k1 hq.1 x) rfl ?_;rintro⟨s2,e2⟩ hq2;refine rn F ?_))
 ·exact⟨rfl,rfl,(Sv0,e),rfl,fU,fun h=>absurd h vq⟩
 ·have q:=hq.2 vu;exact⟨rfl,rfl,(⟨k1,s1.v⟩,0),rfl,⟨hq.1,sm.2⟩,fun _=>⟨ev.st0 q.1,q.2.1.trans tx⟩⟩
 ·exact⟨rfl,rfl,(Sv0,e2),rfl,fU,fun h=>absurd h vq⟩
 ·have q:=hq.2 vu;obtain⟨p1,p2,i,p3,p4,p5,p6⟩:=q.2.2.1 (by dsimp only;first|assumption|simp_all);obtain⟨_,p7⟩:=q.2.2.2 (by dsimp only;first|assumption|simp_all);dsimp only at p1 p2 p3 p4 p5 p6 p7;obtain⟨r0,r1,r2⟩:=zL hq2 vu p1 p3 p4 p5 p6 p7;have hlt:=IF p1 p3 p4 p5 p6;rw[p2.dirty] at hlt;dsimp only at r0 r1 r2;exact⟨⟨s2,hq2.1,(ev.st0 q.1).trans r0,r2.trans (q.2.1.trans tx)⟩,by dsimp only;rw[r1];exact hlt,(gc [0,1])⟩
def zP(s:Sv)(n:Int)(a:Sv×Int):Prop:=a.1.sm/\(a.2=0->Sst 0 s a.1/\a.1.k.tx=s.k.tx/\0<=idF a.1.k.pl.fs n)
def nW (s:Sv) (hs:s.sm) (n:Int):VCalls prog 88 [.agg s.d,.int .i64 n] [] (QM svD (zP s n)):=by
 refine dk Tryz.func88 ?_;have c1:=lM s.k hs.1;have c2:=ka s.k.pl (Jc hs.1.2.1 vj) n;have c3:=IG s hs;have c4:=fun(t:Sv) (h:t.sm)=>H9 t.v (Jc h.2 vj) n;have c5:=fun(t:Sv) (h:t.sm)=>tZ t.k h.1 n;have c6:=fun(t:Sv) (h:t.sm) (hd:Int) (b:List UInt8) (hb:b.length<=1000000)=>Iq t.k.ix h.1.2.2.2.2.1 n hd b hb;have c7:=fun(t:Sv) (h:t.sm) (p:Pg) (hd:Int)=>ID t.k.lg h.1.1 p hd;have c8:=fun(t:Sv) (h:t.sm) (p:Pg)=>HZ t.k h.1 p;have hfi:0<=bg s.k.pl n->0<=idF s.k.pl.fs n:=fun h=>by unfold bg at h;split at h<;>omega
 have e0:∀e,e≠0->zP s n (Sv0,e):=fun e h=>⟨fU,fun h2=>absurd h2 h⟩
 generalize bg s.k.pl n=fi at *;refine rn F ?_
 repeat' (first|with_reducible exact⟨⟩|(refine sG F ?_ ?_<;>intro hZ)|(refine sB F ?_ ?_<;>intro hZ)|(refine Qs (c1) rfl ?_;rintro b -;refine rn F ?_)|refine vp F (c2) ?_|(refine Qs (c3) rfl ?_;rintro⟨s1,e1⟩ hq1;refine rn F ?_)|(refine Qs (c4 s1 hq1.1) rfl ?_;rintro⟨t,e2⟩ ht;refine rn F ?_)|(refine Qs (c5 s1 hq1.1) rfl ?_;rintro hd -;refine rn F ?_)|(refine Qs (c6 s1 hq1.1 hd t (by have:=(ht vu).1;dsimp only at this;omega)) rfl ?_;rintro⟨p,e3⟩ hp;refine rn F ?_)|(refine Qs (c7 s1 hq1.1 p hd) rfl ?_;rintro⟨p2,e4⟩ hp2;refine rn F ?_)|(refine Qs (c8 s1 hq1.1 p2) rfl ?_;rintro⟨k2,e5⟩ hq5;refine rn F ?_))
 all_goals first
  |exact⟨rfl,rfl,(s,0),rfl,hs,fun _=>⟨Sst.refl _,rfl,hfi vz⟩⟩
  |exact⟨rfl,rfl,(Sv0,_),rfl,e0 _ vq⟩
  |exact⟨rfl,rfl,(Sv0,15),rfl,e0 _ vj⟩
  |exact⟨rfl,rfl,(Sv0,1),rfl,e0 _ vj⟩
  | (have q1:=hq1.2 vu
     have q5:=hq5.2 vu;have i3:=hp vu;have i4:=hp2 vu;obtain⟨_,i5,i6⟩:=ht vu;dsimp only at q1 q5 i3 i4 i5 i6;have i7:p2.id=n:=i4.id.trans i3.1
     exact⟨rfl,rfl,(⟨k2,s1.v⟩,0),rfl,⟨hq5.1,hq1.1.2⟩,fun _=>⟨q1.1.put (by rw[i7]; exact i5) (by rw[i7,<- i6]; exact i3) i4 q5.1,q5.2.2.1.trans q1.2,by dsimp only; have:=q5.2.2.2; rw[i7] at this; exact this⟩⟩)
  |skip
end
section
attribute [local go_sem] ba
@[go_sem] def tiD(a:Tx×Int):DV:=.tup [.agg a.1.d,.int .i64 a.2]
@[go_sem] def ebD(a:E×Bool):DV:=.tup [.agg a.1.d,.bool a.2]
def zQ(h:0<=idT l a):(QW l a).id=a:=by
 rcases QB l a with hn|⟨i,hi,hid,he⟩
 ·omega
 ·rw[km hid,Qd l i hi];exact he
def zR(k:Kn)(tx:Int)(a:Tx×Int):Prop:=a.1.l.length<=100000/\(a.2=0->VK k/\0<=idT k.tx tx/\a.1=QW k.tx tx/\a.1.st≠1)/\(a.2≠0->kB k=true->0<=idT k.tx tx->(QW k.tx tx).st=1)
def qJ(k:Kn)(h:k.sm)(tx:Int):VCalls prog 123 [.agg k.d,.int .i64 tx] [] (QM tiD (zR k tx)):=by
 refine dk Tryz.func123 ?_;have c1:=gN k h;obtain⟨h1,h2,h3,h4,h5,h6⟩:=h;have c2:=gF k.tx (Jc h4.1 vj) tx;have hVK:=@dW k;unfold zR;generalize kB k=B at *;rcases QB k.tx tx with hn|⟨i,hil,hid,_⟩
 ·rw [hn] at c2;refine rn F ?_
  repeat' (first|with_reducible exact⟨⟩|(refine sB F ?_ ?_<;>intro hZ)|refine vp F (c1) ?_|refine vp F (c2) ?_)
  all_goals exact⟨rfl,rfl,(Tx0,_),rfl,by simp[Tx0],fun h=>by first|exact absurd h vj|(simp at h),fun _ h1 h2=>by first|omega|simp_all⟩
 rw[hid] at c2;have hg:=dx k.tx i hil;have ht:(k.tx.getD i Tx0).l.length<=100000:=by rw[Qd _ _ hil];exact(h4.2 _ (Ji hil)).1
 have he:QW k.tx tx=k.tx.getD i Tx0:=by unfold QW;rw[hid];rfl
 rw[he];have F:=@hg;refine rn F ?_
 repeat' (first|with_reducible exact⟨⟩|(refine sB F ?_ ?_<;>intro hZ)|refine vp F (c1) ?_|refine vp F (c2) ?_)
 all_goals first|exact⟨rfl,rfl,(k.tx.getD i Tx0,0),rfl,ht,fun _=>⟨hVK wv,vz,rfl,vq⟩,fun h=>absurd rfl h⟩|exact⟨rfl,rfl,(Tx0,15),rfl,by simp[Tx0],fun h=>by simp at h,fun _ h1 _=>by first|assumption|omega|(exfalso;simp_all;done)⟩|exact⟨rfl,rfl,(Tx0,16),rfl,by simp[Tx0],fun h=>by simp at h,fun _ h1 _=>by first|assumption|omega|(exfalso;simp_all;done)⟩|skip
def kr(l:List Tx)(a:Int):Int:=(QW l a).l.getD ((QW l a).l.length-1) 0
def iE(l:List Tx)(g:Lg)(a:Int):E:=(ah g (kr l a)).1
def ur(k:Kn)(tx:Int)(a:E×Bool):Prop:=a.2=true->VK k/\a.1=iE k.tx k.lg tx/\(ah k.lg (kr k.tx tx)).2=0/\lN k (QW k.tx tx) a.1
def IH(k:Kn)(h:k.sm)(tx:Int):VCalls prog 125 [.agg k.d,.int .i64 tx] [] (QM ebD (ur k tx)):=by
 refine dk Tryz.func125 ?_;have c1:=qJ k h tx;obtain⟨h1,h2,h3,h4,h5,h6⟩:=h;have c2:=lJ k.lg vz;have e0:ur k tx (E0,false):=fun h=>by cases h
 refine rn F ?_;refine Qs c1 rfl ?_;rintro⟨t,e⟩ ⟨ht,hq,hq9⟩;dsimp only at ht hq;have hg:=fun h:t.l.length-1<t.l.length=>bL t.l (t.l.length-1) h;have F:=@hg;refine rn F ?_
 repeat' (first|with_reducible exact⟨⟩|(refine sG F ?_ ?_<;>intro hZ)|(refine sB F ?_ ?_<;>intro hZ)|refine vp F (c2 _) ?_|(refine Qf (id:=2) [0,1,2,3,4,5,6,7,8,9,10,11,12,13,14,15,16,17,18,19,20] [] vw vw ?_;refine rn F ?_)|(refine Qf (id:=4) [0,1,2,3,4,5,6,7,8,9] [⟨[14],[],10,[0,2,3,4,5,6,7,8],[11,12,13]⟩,⟨[14],[14],15,[13],[]⟩,⟨[],[],16,[],[]⟩] vw vw ?_;refine rn F ?_))
 all_goals first|exact⟨rfl,rfl,(E0,false),rfl,e0⟩|skip
 obtain⟨v,_,rfl,_⟩:=hq (by first|omega|simp_all);have hpos:0<(QW k.tx tx).l.length:=vz
 exact⟨rfl,rfl,((ah k.lg (kr k.tx tx)).1,_),rfl,fun h=>by
  have h0:(ah k.lg (kr k.tx tx)).2=0:=by simpa [kr] using h
  exact⟨v,rfl,h0,(QW k.tx tx).l.length-1,vz,h0,rfl,fun j h1 h2=>by omega⟩⟩
structure OfS(k:Kn)(t:Tx)(pg sl:Int) where
 i:Nat
 hi:i<=t.l.length
 no:∀j,i<=j->j<t.l.length->(ah k.lg (t.l.getD j 0)).2=0->¬((ah k.lg (t.l.getD j 0)).1.c.pg=pg/\(ah k.lg (t.l.getD j 0)).1.c.sl=sl)
def II (k:Kn) (h:k.sm) (t:Tx) (ht:t.l.length<=100000) (pg sl:Int):VCalls prog 217 [.agg k.d,.agg t.d,.agg [.int .i64 pg,.int .i64 sl],.int .i64 t.l.length] [] (QM ebD fun a=>(a.2 = true->lN k t a.1/\a.1.c.pg = pg)/\(a.2 = false->∀n ∈ t.l,(ah k.lg n).2 = 0->¬((ah k.lg n).1.c.pg = pg/\(ah k.lg n).1.c.sl = sl))):=by
 refine dk Tryz.func217 ?_;obtain⟨h1,h2,h3,h4,h5,h6⟩:=h;have c2:=lJ k.lg vz;refine rn F ?_;refine Qj (fun s:OfS k t pg sl=>⟨50,0,[(10,.int .i64 ((s.i:Int)-1)),(8,.ptr 3 0),(6,.ptr 2 0),(5,.ptr 1 0),(4,.ptr 0 0)],[⟨39,true,k.d⟩,⟨64,true,t.d⟩,⟨88,true,[.int .i64 pg,.int .i64 sl]⟩,⟨58,true,E0.d⟩]⟩) (fun s=>s.i) ⟨t.l.length,JN _,fun j h1 h2=>by omega⟩ (gc [0,1,2,3]) ?_;rintro⟨i,hi,no⟩;dsimp only;have hg:=fun h:i-1<t.l.length=>bL t.l (i-1) h;have c3:=c2 (t.l.getD (i-1) 0);have hL:=fun(a1:i-1<t.l.length) (a2:(ah k.lg (t.l.getD (i-1) 0)).2=0) (a3:(ah k.lg (t.l.getD (i-1) 0)).1.c.pg=pg) (a4:(ah k.lg (t.l.getD (i-1) 0)).1.c.sl=sl)=>(⟨i-1,a1,a2,rfl,fun j h1 h2 h3=>by rw[a3,a4];exact no j vz h2 h3⟩:lN k t (ah k.lg (t.l.getD (i-1) 0)).1)
 have hN:=fun(a:(ah k.lg (t.l.getD (i-1) 0)).2=0->¬ ((ah k.lg (t.l.getD (i-1) 0)).1.c.pg=pg/\(ah k.lg (t.l.getD (i-1) 0)).1.c.sl=sl))=>(fun j h1 h2 h3=>by
  rcases JF j i with h4|h4
  ·obtain rfl:j = i - 1:=vz;exact a h3
  ·exact no j h4 h2 h3:∀ j,i-1<=j->j<t.l.length->(ah k.lg (t.l.getD j 0)).2=0->¬ ((ah k.lg (t.l.getD j 0)).1.c.pg=pg/\(ah k.lg (t.l.getD j 0)).1.c.sl=sl))
 have hF:i=0->∀n∈t.l,(ah k.lg n).2=0->¬((ah k.lg n).1.c.pg=pg/\(ah k.lg n).1.c.sl=sl):=fun h0 n hn=>by
  obtain⟨j,hj,rfl⟩:=Jm.1 hn;have:=no j vz hj;rwa [Qd _ _ hj] at this
 generalize hgE:ah k.lg (t.l.getD (i-1) 0)=g at *;have F:=@hg;refine rn F ?_
 repeat' (first|with_reducible exact⟨⟩|(refine sG F ?_ ?_<;>intro hZ)|(refine sB F ?_ ?_<;>intro hZ)|refine vp F (c3) ?_|(refine Qf (id:=4) [0,1,2,3,4,5,6] [⟨[11],[],7,[0,2,3,4,5],[8,9,10]⟩,⟨[11],[11],12,[10],[]⟩,⟨[],[],13,[],[]⟩] vw vw ?_;refine rn F ?_))
 all_goals first
  |exact⟨rfl,rfl,(E0,false),rfl,fun h=>(by cases h),fun _=>hF vz⟩
  |exact⟨rfl,rfl,(g.1,true),rfl,fun _=>⟨hL vz vz vz vz,vu⟩,fun h=>by cases h⟩
  | (refine ⟨⟨i - 1,vz,hN vz⟩,vu,?_⟩
     dsimp only;rw[show((i-1:Nat):Int)-1=(i:Int)-1-1 by omega]
     exact(gc [0,1,2,3]))
  |skip
def zT(k:Kn)(tx pg sl:Int)(a:E×Bool):Prop:=(a.2=true->lN k (QW k.tx tx) a.1/\a.1.c.pg=pg)/\(a.2=false->kB k=true->0<=idT k.tx tx->(QW k.tx tx).st=3->qB k tx pg sl)
def zU (k:Kn) (h:k.sm) (tx pg sl:Int):VCalls prog 171 [.agg k.d,.int .i64 tx,.agg [.int .i64 pg,.int .i64 sl]] [] (QM ebD (zT k tx pg sl)):=by
 refine dk Tryz.func171 ?_;have c1:=qJ k h tx;unfold zT;refine rn F ?_;refine Qs c1 rfl ?_;rintro⟨t,e⟩ ⟨ht,hq,hq9⟩;have c2:=II k h t ht;refine rn F ?_
 repeat' (first|with_reducible exact⟨⟩|(refine sG F ?_ ?_<;>intro hZ)|(refine sB F ?_ ?_<;>intro hZ)|(refine Qs (c2 _ _) rfl ?_;rintro⟨y,b⟩ hb;refine rn F ?_))
 all_goals first
  | (have he:=(hq (by first | omega | (dsimp only; omega) | simp_all)).2.2.1
     dsimp only at he;rw[he] at hb
     exact⟨rfl,rfl,(y,b),rfl,hb.1,fun h _ _ _=>hb.2 h⟩)
  | exact⟨rfl,rfl,(E0,false),rfl,fun h=>(by cases h),fun _ h1 h2 h3=>by
   exfalso
   first
    |(have:=hq9 vu h1 h2;omega)
    | (have:=(hq vu).2.2.1; dsimp only at this; subst this; omega)⟩
  |skip
def zV(k:Kn)(pg:Int)(a:Kn×Rs):Prop:=a.1.sm/\(a.2.st=3->a.1=k/\a.2.pg=pg/\idF k.pl.fs pg<0)/\(a.2.st≠3->a.2.st≠5->a.2.st=1/\Str 0 k a.1/\k.lg.es.length<a.1.lg.es.length)/\(a.2.st=5->a.2.er≠0)
def IJ(ha:AddOk k e e')(hk:e.kind=2)(h3:(QW k.tx e.tx).st=3):0<=idT (k.set e').tx e.tx/\(QW (k.set e').tx e.tx).st=3:=by
 obtain⟨v,s,ho,_,_,hn,_⟩:=ha;have hk':e'.kind=2:=by rw[s.1];exact hk
 obtain⟨h1,h2,h4⟩:=y0 hn vz (za ho vz);rw[s.2.1] at h1 h2 h4;refine⟨h2,?_⟩;show(QW (QA k.tx e').1 e.tx).st=3
 rw[h4]
 have:(aX (QW k.tx e.tx) e').st=3:=by
  unfold aX;rw[if_neg vz,if_pos hk'];exact h3
 unfold QD;grind
def IK(k:Kn)(e:E):k.lg.es.length<(k.set e).lg.es.length:=by
 unfold Kn.set Kn.add;simp
def zW (k:Kn) (h:k.sm) (hv:VK k) (t:Tx) (hid:0<=idT k.tx t.id) (hta:QW k.tx t.id = t) (hst:t.st ≠ 1) (e:E) (hla:lN k t e):VCalls prog 126 [.agg k.d,.agg t.d,.agg e.d] [] (QM krD (zV k e.c.pg)):=by
 refine dk Tryz.func126 ?_;have h':=h;obtain⟨h1,h2,h3,h4,h5,h6⟩:=h;have c1:=nO k.pl vz e.c.pg;have hn:=zg (a:=e.c.pg) hv.2.2.2.1;have c2:=Ix e.c;generalize hgg:aN k.pl e.c.pg=g at *;have c3:=zJ g.1 ⟨e.c.pg,e.c.sl,e.c.a,e.c.b⟩;have c4:=zf k h' ⟨0,2,t.id,0,0,e.lsn,⟨e.c.pg,e.c.sl,e.c.a,e.c.b⟩,[]⟩ (.inr rfl);have hf:∀er,er≠0->zV k e.c.pg (k,aJ er):=fun er hr=>⟨h',fun h=>by simp[aJ] at h,fun _ h=>absurd rfl h,fun _=>hr⟩
 refine rn F ?_
 repeat' (first|with_reducible exact⟨⟩|(refine sB F ?_ ?_<;>intro hZ)|refine vp F (c1) ?_|refine vp F (c2) ?_|(refine Qs (c3) rfl ?_;rintro⟨p1,e1⟩ hp1;refine rn F ?_)|(refine Qs (c4) rfl ?_;rintro⟨k1,e2⟩ hq;refine rn F ?_)|refine vp F (dA _) ?_|(refine Qs (zU k1 hq.1 _ _ _) rfl ?_;rintro⟨y,b⟩ hno;refine rn F ?_)|(refine Qs (yB k1.lk (Jc hq.1.2.2.1 vj) _ _ _) rfl ?_;rintro u hu;refine rn F ?_)|(refine Qf (id:=3) [0,1,2,3,4] [⟨[],[],5,[1,2,3,4],[]⟩,⟨[],[],6,[],[]⟩] vw vw ?_;refine rn F ?_)|(refine Qf (id:=7) [0,1] [⟨[],[],2,[0],[]⟩,⟨[],[],3,[1],[]⟩,⟨[],[],4,[],[]⟩] vw vw ?_;refine rn F ?_)|(refine Qf (id:=10) [0,1] [⟨[],[],2,[0],[]⟩,⟨[],[],3,[1],[]⟩,⟨[],[],4,[],[]⟩] vw vw ?_;refine rn F ?_)|(refine Qf (id:=16) [0,1,2,3] [⟨[],[],4,[1,2,3],[]⟩,⟨[],[],5,[],[]⟩] vw vw ?_;refine rn F ?_))
 all_goals first|exact⟨rfl,rfl,(k,⟨3,0,e.c.pg,Ce0,0⟩),rfl,h',fun _=>⟨rfl,rfl,hn wy⟩,fun h=>absurd rfl h,fun h=>by simp at h⟩|exact⟨rfl,rfl,(k,aJ _),rfl,hf _ vq⟩|skip
 all_goals
  obtain⟨e',q1,q2,q3⟩:=hq.2.1 vu;dsimp only at q3;have qP:lO k ⟨0,2,t.id,0,0,e.lsn,⟨e.c.pg,e.c.sl,e.c.a,e.c.b⟩,[]⟩:=⟨hid,fun h=>by simp at h,fun _=>⟨by dsimp only;rw[hta];exact hst,e,by dsimp only;rw[hta];exact hla,rfl,rfl⟩,by dsimp only;rw[hgg];first|assumption|simp_all,by dsimp only;rw[hgg];exact(hp1 vu).2.1⟩
  have ql:k.lg.es.length<k1.lg.es.length:=by rw[q3];exact IK k e'
 all_goals first
  |exact⟨rfl,rfl,(k1,⟨1,t.id,0,Ce0,0⟩),rfl,hq.1,fun h=>by simp at h,fun _ _=>⟨rfl,by dsimp only;rw[q3];exact .one (.undo q1 rfl qP q2),ql⟩,fun h=>by simp at h⟩
  | (obtain ⟨r1,r2,r3,r4,r5,r6⟩:=hq.1
     dsimp only at hno r1 r2 r3 r4 r5 r6 hu;have hs3:=IJ q1 rfl (by dsimp only;rw[hta];omega);have hnp:=fun hB=>hno.2 (by first|assumption|rfl|simp_all) hB;refine⟨rfl,rfl,(⟨k1.pg,k1.nx,k1.lg,k1.pl,u,k1.tx,k1.ix,k1.la⟩,⟨1,t.id,0,Ce0,0⟩),rfl,⟨r1,r2,Jc hu.1 r3,r4,r5,r6⟩,fun h=>by simp at h,fun _ _=>⟨rfl,?_,ql⟩,fun h=>by simp at h⟩;dsimp only at hs3 |-;subst q3
     exact .one (.undol u q1 rfl qP q2 fun hB=>zd hu.2 q1.lgB hs3.2 (hnp hB hs3.1 hs3.2)))
  |skip
end
section
attribute [local go_sem] ba
def zX(k:Kn)(tx:Int)(a:Kn×Rs):Prop:=a.1.sm/\(a.2.st=3->VK k/\a.1=k/\a.2.pg=(iE k.tx k.lg tx).c.pg/\(ah k.lg (kr k.tx tx)).2=0/\idF k.pl.fs a.2.pg<0)/\(a.2.st≠3->a.2.st≠5->Str 0 k a.1/\k.lg.es.length<a.1.lg.es.length)/\(a.2.st=5->a.2.er≠0)
def zY (k:Kn) (h:k.sm) (tx:Int):VCalls prog 90 [.agg k.d,.int .i64 tx] [] (QM krD (zX k tx)):=by
 refine dk Tryz.func90 ?_;have c1:=qJ k h tx;have c2:=kg k h ⟨0,5,tx,0,0,0,Ch0,[]⟩;have c3:=IH k h tx;have hf:∀er,er≠0->zX k tx (k,aJ er):=fun er hr=>⟨h,fun h=>by simp[aJ] at h,fun _ h=>absurd rfl h,fun _=>hr⟩
 refine rn F ?_;refine Qs c1 rfl ?_;rintro⟨t,e⟩ ⟨ht,hq0,-⟩;by_cases he:e=0;rotate_left
 ·skip
  have F:=@he;refine rn F ?_
  repeat' (first|with_reducible exact⟨⟩|refine vp F (dA _) ?_|(refine Qf (id:=3) [0,1] [⟨[],[],2,[0],[]⟩,⟨[],[],3,[1],[]⟩,⟨[],[],4,[],[]⟩] vw vw ?_;refine rn F ?_))
  exact⟨rfl,rfl,(k,aJ e),rfl,hf _ he⟩
 obtain⟨hv,hi,rfl,hst⟩:=hq0 he;subst he;have hid:=zQ hi;have hta:QW k.tx (QW k.tx tx).id=QW k.tx tx:=by rw[hid]
 have hid0:0<=idT k.tx (QW k.tx tx).id:=by rw[hid];exact hi
 have hfin:(QW k.tx tx).st=3->(QW k.tx tx).l.length=0->kk k ⟨0,5,tx,0,0,0,Ch0,[]⟩:=fun a b=>⟨hi,fun h=>by simp at h,fun _=>⟨a,List.eq_nil_of_length_eq_zero b⟩⟩
 dsimp only at hst ht;unfold ur at c3;generalize htt:QW k.tx tx=t at *;have F:=trivial;refine rn F ?_
 repeat' (first|with_reducible exact⟨⟩|(refine sG F ?_ ?_<;>intro hZ)|(refine sB F ?_ ?_<;>intro hZ)|(refine Qs (c2) rfl ?_;rintro⟨k1,n1,e1⟩ hq;refine rn F ?_)|refine vp F (dA _) ?_|(refine Qs (qj k1.lk (Jc hq.1.2.2.1 vj) tx) rfl ?_;rintro u hu;refine rn F ?_)|(refine Qs (c3) rfl ?_;rintro⟨y,ok⟩ hy;refine rn F ?_)|(refine Qs (zW k h hv t hid0 hta hst y (hy wy).2.2.2) rfl ?_;rintro⟨k2,r2⟩ hq2;refine rn F ?_)|(refine Qf (id:=7) [0,1] [⟨[],[],2,[0],[]⟩,⟨[],[],3,[1],[]⟩,⟨[],[],4,[],[]⟩] vw vw ?_;refine rn F ?_)|(refine Qf (id:=12) [0] [⟨[],[],1,[0],[]⟩,⟨[],[],2,[],[]⟩,⟨[],[],3,[],[]⟩] vw vw ?_;refine rn F ?_))
 all_goals first
  |exact⟨rfl,rfl,(k,aJ _),rfl,hf _ wj⟩
  | (obtain ⟨q1,q2,q3,q4,q5,q6,q7⟩:=yX hq vz
     have qs:=ub hq vz (.inr (.inr rfl)) (hfin vz vz);have qn:=yY hq vz (.inr rfl) hi;obtain⟨r1,r2,r3,r4,r5,r6⟩:=hq.1
     exact⟨rfl,rfl,(⟨k1.pg,k1.nx,k1.lg,k1.pl,u,k1.tx,k1.ix,k1.la⟩,⟨1,0,0,Ce0,0⟩),rfl,⟨r1,r2,Jc hu.1 r3,r4,r5,r6⟩,fun h=>by simp at h,fun _ _=>⟨qs.step (.lock u (qC hu.2 qn)),vu⟩,fun h=>by simp at h⟩)
  | (obtain ⟨y1,y2,y3,_⟩:=hy wy
     dsimp only at y2
     exact⟨rfl,rfl,(k2,r2),rfl,hq2.1,fun h=>⟨hv,(hq2.2.1 h).1,by rw[<- y2]; exact(hq2.2.1 h).2.1,y3,by rw[(hq2.2.1 h).2.1]; exact(hq2.2.1 h).2.2⟩,fun a b=>(hq2.2.2.1 a b).2,hq2.2.2.2⟩)
  |skip
def zZ(k:Kn)(pg:Int)(a:Kn×Rs):Prop:=a.1.sm/\(a.2.st=3->a.1=k/\a.2.pg=pg/\idF k.pl.fs pg<0)/\(a.2.st≠3->a.2.st≠5->a.2.tx≠0->Str 0 k a.1/\k.lg.es.length<a.1.lg.es.length)/\(a.2.st=5->a.2.er≠0)
def IL (k:Kn) (h:k.sm) (tx pg sl:Int):VCalls prog 134 [.agg k.d,.int .i64 tx,.agg [.int .i64 pg,.int .i64 sl]] [] (QM krD (zZ k pg)):=by
 refine dk Tryz.func134 ?_;have c1:=qJ k h tx;have c3:=zU k h tx pg sl;have hf:∀er,er≠0->zZ k pg (k,aJ er):=fun er hr=>⟨h,fun h=>by simp[aJ] at h,fun _ h=>absurd rfl h,fun _=>hr⟩
 refine rn F ?_;refine Qs c1 rfl ?_;rintro⟨t,e⟩ ⟨ht,hq0,-⟩;by_cases he:e=0;rotate_left
 ·skip
  have F:=@he;refine rn F ?_
  repeat' (first|with_reducible exact⟨⟩|refine vp F (dA _) ?_|(refine Qf (id:=3) [0,1] [⟨[],[],2,[0],[]⟩,⟨[],[],3,[1],[]⟩,⟨[],[],4,[],[]⟩] vw vw ?_;refine rn F ?_))
  exact⟨rfl,rfl,(k,aJ e),rfl,hf _ he⟩
 obtain⟨hv,hi,rfl,hst⟩:=hq0 he;subst he;have hid:=zQ hi;have hta:QW k.tx (QW k.tx tx).id=QW k.tx tx:=by rw[hid]
 have hid0:0<=idT k.tx (QW k.tx tx).id:=by rw[hid];exact hi
 dsimp only at hst ht;generalize htt:QW k.tx tx=t at *;have F:=trivial;refine rn F ?_
 repeat' (first|with_reducible exact⟨⟩|(refine sB F ?_ ?_<;>intro hZ)|refine vp F (dA _) ?_|(refine Qs (c3) rfl ?_;rintro⟨y,ok⟩ hy;refine rn F ?_)|(refine Qs (zW k h hv t hid0 hta hst y (htt▸(hy.1 vq).1)) rfl ?_;rintro⟨k2,r2⟩ hq2;refine rn F ?_)|(refine Qf (id:=5) [0] [⟨[],[],1,[0],[]⟩,⟨[],[],2,[],[]⟩,⟨[],[],3,[],[]⟩] vw vw ?_;refine rn F ?_))
 all_goals first
  |exact⟨rfl,rfl,(k,aJ _),rfl,hf _ wj⟩
  |exact⟨rfl,rfl,(k,⟨1,0,0,Ce0,0⟩),rfl,h,fun h=>by simp at h,fun _ _ h=>absurd rfl h,fun h=>by simp at h⟩
  | (have y2:=(hy.1 wy).2
     dsimp only at y2;rw[y2] at hq2
     exact⟨rfl,rfl,(k2,r2),rfl,hq2.1,hq2.2.1,fun h1 h2 _=>(hq2.2.2.1 h1 h2).2,hq2.2.2.2⟩)
  |skip
end
section
attribute [local go_sem] ba
def Ev.get(h:Ev x y)(h0:(ah x n).2=0):ah y n=ah x n:=by
 obtain⟨hv,h1,h2,_,_⟩:=qI h0;have hf:=h.f;obtain⟨t,ht⟩:=h.pre;have hv2:=h.ok hv;have hl:y.es.length=x.es.length+t.length:=by rw[<-ht,Jf]
 have hd:=bz hv;simp only[Lg.hd] at hd;unfold ah;rw[if_neg (by rw[hv2];decide),if_neg (by simp only[Lg.end_] at *;omega),if_neg (by rw[hv];decide),if_neg vz];rw[hf,<-ht];congr 1;simp only[Lg.end_] at h2;grind
def z6(s:Sv)(hs:s.sm)(tx:Int):VCalls prog 130 [.agg s.d,.int .i64 tx] [] (QM boD fun _=>True):=by
 refine dd Tryz.func130 ?_;have h4:=hs.1.2.2.2.1;have c2:=gF s.k.tx (Jc h4.1 vj) tx;rcases QB s.k.tx tx with hn|⟨i,hil,hid,_⟩
 ·rw [hn] at c2;refine rn F ?_
  repeat' (first|with_reducible exact⟨⟩|refine vp F (c2) ?_)
  all_goals exact⟨rfl,rfl,_,rfl,trivial⟩
 rw[hid] at c2;have hg:=dx s.k.tx i hil;have F:=@hg;refine rn F ?_
 repeat' (first|with_reducible exact⟨⟩|refine vp F (c2) ?_)
 all_goals exact⟨rfl,rfl,_,rfl,trivial⟩
def inP(l:List Fm)(a:Int):Nat:=if 0<=idF l a then 0 else 1
def z7(l:List Fm)(a:Int):inP l a<=1:=by unfold inP;split<;>omega
def rbM(tx:Int)(s:Sv):Nat:=2*(4096-s.k.lg.es.length)+inP s.k.pl.fs (iE s.k.tx s.k.lg tx).c.pg
def IM(h:s.k.lg.es.length<t.k.lg.es.length)(hl:t.k.lg.es.length<=4096):rbM tx t<rbM tx s:=by
 have:=z7 t.k.pl.fs (iE t.k.tx t.k.lg tx).c.pg;unfold rbM;omega
def z9(ev:Ev s.k.lg t.k.lg)(hx:t.k.tx=s.k.tx)(h0:(ah s.k.lg (kr s.k.tx tx)).2=0)(h1:idF s.k.pl.fs (iE s.k.tx s.k.lg tx).c.pg<0)(h2:0<=idF t.k.pl.fs (iE s.k.tx s.k.lg tx).c.pg):rbM tx t<rbM tx s:=by
 have hl:=ev.len;have e:iE t.k.tx t.k.lg tx=iE s.k.tx s.k.lg tx:=by unfold iE;rw[hx,ev.get h0]
 unfold rbM;rw[e];unfold inP;grind
def evQ(s:Sv)(a:Sv×Int):Prop:=a.1.sm/\(a.2=0->Sst 0 s a.1)
structure Re(s0:Sv) where
 s:Sv
 sm:s.sm
 ev:Sst 0 s0 s
def IP(s:Sv)(hs:s.sm)(tx:Int):VCalls prog 131 [.agg s.d,.int .i64 tx] [] (QM svD (evQ s)):=by
 refine dk Tryz.func131 ?_;have c1:=lM s.k hs.1;have c2:=gF s.k.tx (Jc hs.1.2.2.2.1.1 vj) tx;have e0:∀e,e≠0->evQ s (Sv0,e):=fun e h=>⟨fU,fun h2=>absurd h2 h⟩
 refine rn F ?_
 repeat' (first|with_reducible exact⟨⟩|(refine sB F ?_ ?_<;>intro hZ)|(refine Qs (c1) rfl ?_;rintro b -;refine rn F ?_)|refine vp F (c2) ?_)
 all_goals first|exact⟨rfl,rfl,(Sv0,15),rfl,e0 _ vj⟩|exact⟨rfl,rfl,(Sv0,16),rfl,e0 _ vj⟩|skip
 refine Qj (fun r:Re s=>⟨56,0,[(4,.ptr 1 0),(2,.ptr 0 0),(1,.int .i64 tx)],[⟨77,true,r.s.d⟩,⟨77,true,Zv⟩]⟩) (fun r=>rbM tx r.s) ⟨s,hs,Sst.refl _⟩ (gc [0,1]) ?_;rintro⟨s1,sm,ev⟩;dsimp only;unfold Zv;have d1:=z6 s1 sm tx;have d2:=zY s1.k sm.1 tx;have d3:=fun n=>nW s1 sm n;refine rn F ?_
 repeat' (first|with_reducible exact⟨⟩|(refine sB F ?_ ?_<;>intro hZ)|(refine Qs (d1) rfl ?_;rintro b2 -;refine rn F ?_)|(refine Qs (d2) rfl ?_;rintro⟨k1,r1⟩ hq;refine rn F ?_)|(refine Qs (d3 _) rfl ?_;rintro⟨s2,e2⟩ hq2;refine rn F ?_)|(refine Qf (id:=10) [0,1,2] [⟨[],[],3,[1,2],[]⟩,⟨[],[],4,[],[]⟩] vw vw ?_;refine rn F ?_))
 all_goals first|exact⟨rfl,rfl,(s1,0),rfl,sm,fun _=>ev⟩|exact⟨rfl,rfl,(Sv0,e2),rfl,e0 _ vq⟩|exact⟨rfl,rfl,(Sv0,r1.er),rfl,e0 _ (hq.2.2.2 vq)⟩|skip
 ·obtain ⟨v,_,g1,g2,g3⟩:=hq.2.1 wz;have q2:=hq2.2 vu;dsimp only at g1 g3 q2;rw[g1] at g3 q2;exact⟨⟨s2,hq2.1,ev.trans q2.1⟩,z9 q2.1.ev q2.2.1 g2 g3 q2.2.2,(gc [0,1])⟩
 ·have q:=hq.2.2.1 vu vu;exact⟨⟨⟨k1,s1.v⟩,⟨hq.1,sm.2⟩,ev.st0 q.1⟩,IM q.2 hq.1.1,(gc [0,1])⟩
end
section
attribute [local go_sem] ba
@[go_sem] def srD(a:Sv×Rs):DV:=.tup [.agg a.1.d,.agg a.2.d]
def uu(s:Sv)(a:Sv×Rs):Prop:=a.1.sm/\(a.2.st=2->Sst 0 s a.1)/\(a.2.st≠5->Sst 1 s a.1)
def uv(s t:Sv)(h:t.sm)(e:Int):uu s (t,aJ e):=⟨h,fun h=>by simp[aJ] at h,fun h=>absurd rfl h⟩
def Zr:List DV:=[.int .i64 0,.int .i64 0,.int .i64 0,.bool false,.pv (.str []),.int .i64 0]
def IQ (s:Sv) (hs:s.sm) (tx:Int) (a:Ac):VCalls prog 98 [.agg s.d,.int .i64 tx,.agg a.d] [] (QM srD (uu s)):=by
 refine dk Tryz.func98 ?_;refine rn F ?_;refine Qj (fun r:Re s=>⟨79,0,[(7,.ptr 3 0),(6,.ptr 2 0),(5,.ptr 1 0),(3,.ptr 0 0),(1,.int .i64 tx)],[⟨77,true,r.s.d⟩,⟨128,true,a.d⟩,⟨77,true,Zv⟩,⟨125,true,Zr⟩]⟩) (fun r=>inP r.s.k.pl.fs a.pg) ⟨s,hs,Sst.refl _⟩ (gc [0,1,2,3]) ?_;rintro⟨s1,sm,ev⟩;dsimp only;unfold Zv Zr;have d1:=HF s1.k sm.1 tx a;have d2:=fun(k:Kn) (hk:k.sm)=>nW ⟨k,s1.v⟩ ⟨hk,sm.2⟩;have d3:=fun(k:Kn) (hk:k.sm)=>z6 ⟨k,s1.v⟩ ⟨hk,sm.2⟩ tx;have d4:=fun(k:Kn) (hk:k.sm)=>IP ⟨k,s1.v⟩ ⟨hk,sm.2⟩ tx;refine rn F ?_
 repeat' (first|with_reducible exact⟨⟩|(refine sG F ?_ ?_<;>intro hZ)|(refine sB F ?_ ?_<;>intro hZ)|(refine Qs (d1) rfl ?_;rintro⟨k1,r1⟩ hq;refine rn F ?_)|(refine Qs (d2 k1 hq.1 _) rfl ?_;rintro⟨s2,e2⟩ hq2;refine rn F ?_)|refine vp F (dA _) ?_|(refine Qs (d3 k1 hq.1) rfl ?_;rintro b -;refine rn F ?_)|(refine Qs (d4 k1 hq.1) rfl ?_;rintro⟨s3,e3⟩ hq3;refine rn F ?_)|(refine Qf (id:=6) [0,1] [⟨[],[],2,[0],[]⟩,⟨[],[],3,[1],[]⟩,⟨[],[],4,[],[]⟩] vw vw ?_;refine rn F ?_)|(refine Qf (id:=12) [0,1] [⟨[],[],2,[0],[]⟩,⟨[],[],3,[1],[]⟩,⟨[],[],4,[],[]⟩] vw vw ?_;refine rn F ?_)|(refine Qf (id:=14) [0,1] [⟨[],[],2,[1],[]⟩,⟨[],[],3,[],[]⟩] vw vw ?_;refine rn F ?_))
 all_goals first
  |exact⟨rfl,rfl,(⟨k1,s1.v⟩,aJ e2),rfl,uv s ⟨k1,s1.v⟩ ⟨hq.1,sm.2⟩ e2⟩
  |exact⟨rfl,rfl,(⟨k1,s1.v⟩,aJ e3),rfl,uv s ⟨k1,s1.v⟩ ⟨hq.1,sm.2⟩ e3⟩
  | exact⟨rfl,rfl,(⟨k1,s1.v⟩,r1),rfl,⟨hq.1,sm.2⟩,fun h=>ev.st0 (hq.2.2.1 h),fun h=>by
   by_cases h2:r1.st=2
   ·exact(ev.st0 (hq.2.2.1 h2)).mono vz
   ·exact ev.tr0 ((hq.2.2.2 (by dsimp only at *; omega) h2 h).sv s1.v)⟩
  | (have q3:=hq3.2 vu
     exact⟨rfl,rfl,(s3,r1),rfl,hq3.1,fun h=>by dsimp only at h; omega,fun h=>ev.tr0 (((hq.2.2.2 (by dsimp only at *; omega) (by dsimp only at *; omega) h).sv s1.v).tr q3)⟩)
  |skip
 obtain⟨g1,g2,g3,g4⟩:=hq.2.1 wx;have q2:=hq2.2 vu;dsimp only at g1 g2 g3 g4 q2;rw[g2] at q2;refine⟨⟨s2,hq2.1,(ev.st0 g4).trans q2.1⟩,?_,(gc [0,1,2,3])⟩;unfold inP;dsimp only;rw[if_pos q2.2.2,if_neg vz];omega
@[go_sem] def Aa(a:Sv×Int×Int):DV:=.tup [.agg a.1.d,.int .i64 a.2.1,.int .i64 a.2.2]
def IR(s:Sv)(hs:s.sm):VCalls prog 54 [.agg s.d] [] (QM Aa fun a=>a.1.sm/\(a.2.2=0->Sst 1 s a.1)):=by
 refine dk Tryz.func54 ?_;have c1:=Hj s.k hs.1;refine rn F ?_
 repeat' (first|with_reducible exact⟨⟩|(refine sB F ?_ ?_<;>intro hZ)|(refine Qs (c1) rfl ?_;rintro⟨k1,n1,e1⟩ hq;refine rn F ?_))
 all_goals first|exact⟨rfl,rfl,(Sv0,0,e1),rfl,fU,fun h=>absurd h vq⟩|exact⟨rfl,rfl,(⟨k1,s.v⟩,n1,0),rfl,⟨hq.1,hs.2⟩,fun _=>by obtain⟨q1,q2,q3⟩:=hq.2 vu;dsimp only at q3;subst q3;exact(Str.one (.begin q1 q2)).sv s.v⟩|skip
def mkR:∀n:Nat,V.mk [.pv (.lit (.int .i64 0)),.pv (.lit (.int .i64 0)),.pv (.lit (.int .i64 0))] n = cells ay (Je n Rw0)
 |0=>rfl
 |n + 1=>by
   show _++V.mk _ n=_
   rw[mkR n,List.replicate_succ];rfl
def Ab(n:Int):VCalls prog 51 [.int .i64 n] [] (QM (fun a:List Rw×Int=>.tup [.agg [.pv (.sl (fz ay a.1))],.int .i64 a.2]) fun a=>a.1.length<=64/\(a.2=0->a.1=Je n.toNat Rw0)/\(1<=n->n<=64->a.2=0)):=by
 refine dk Tryz.func51 ?_;refine rn F ?_
 repeat' (first|with_reducible exact⟨⟩|(refine sG F ?_ ?_<;>intro hZ)|(refine sB F ?_ ?_<;>intro hZ))
 all_goals first|exact⟨rfl,rfl,([],1),rfl,Jg _,fun h=>by simp at h,fun _ _=>by omega⟩|skip
 obtain⟨m,rfl⟩:∃m:Nat,n=m:=⟨n.toNat,vz⟩
 have hc:((0:Int)<=(m:Int)/\(m:Int)<=(m:Int)/\((24:Nat):Int)*(m:Int)<=281474976710656/\(m:Int)<=9223372036854775807)=True:=eq_true ⟨vz,vz,vz,vz⟩;have hmk:=mkR m;have hlr:(Je m Rw0).length=m:=Jy;refine rn (Ja @hc (Ja @hmk @hlr)) ?_;exact⟨rfl,rfl,(Je m Rw0,0),rfl,by dsimp only;rw[hlr];omega,fun _=>rfl,fun _ _=>rfl⟩
end
section
attribute [local go_sem] ba
def Lg1:Lg:=⟨1,[],0⟩
def IU:lgB Lg1=true:=vj
def IV:VCalls prog 52 [] [] (Ret (.agg Lg1.c)):=by
 refine dk Tryz.func52 ?_;refine rn F ?_;rfl
def IW(n:Int):(gL n).1.fs=[]:=by unfold gL;split<;>rfl
def IX(s:Sv)(hs:s.sm)(n:Int):VCalls prog 57 [.agg s.d,.int .i64 n] [] (QM svD (evQ s)):=by
 refine dk Tryz.func57 ?_;have c1:=HM s.k hs.1 n;have c2:=ka s.k.pl (Jc hs.1.2.1 vj) n;have c3:=fun k hk x=>zM s hs.2 k hk x;have e0:∀e,e≠0->evQ s (Sv0,e):=fun e h=>⟨fU,fun h2=>absurd h2 h⟩
 refine rn F ?_;refine Qs c1 rfl ?_;rintro⟨k1,x,e⟩ hq;by_cases he:e=0;rotate_left
 ·skip
  have F:=@he;refine rn F ?_;exact⟨rfl,rfl,(Sv0,e),rfl,e0 _ he⟩
 obtain⟨q1,q2,q3,q4,q5,_,q6⟩:=hq.2 he;dsimp only at q1 q2 q3 q4 q5 q6;subst he;rcases nN s.k.pl n with hn|⟨hpl,i,hi,hfi,hif,hpg⟩
 ·omega
 have hx:(k1.pl.fs.getD i Fm0).pg=x:=by
  rw[q3,q4];unfold aN;rw[hfi,if_neg vz,Jh]
 have hxi:idF k1.pl.fs x.id=i:=by rw[<-hx,q4,hpg];exact hif
 have hw:=fun(s2:Sv) (e2:Int) (hq2:uq s k1 x (s2,e2)) (h:e2=0) (hd:(s.k.pl.fs.getD i Fm0).dirty=true)=>(zL hq2 h (by rw[q4];exact hpl) (by rw[q4];exact hi) hxi hx (by rw[q4];exact hd) q6).1;dsimp only at hw;rw[hfi] at c2;have hg:=dQ s.k.pl.fs i hi;generalize s.k.pl.fs.getD i Fm0=f at *;have F:=@hg;refine rn F ?_
 repeat' (first|with_reducible exact⟨⟩|(refine sB F ?_ ?_<;>intro hZ)|refine vp F (c2) ?_|(refine Qs (c3 k1 hq.1 x) rfl ?_;rintro⟨s2,e2⟩ hq2;refine rn F ?_)|(refine Qf (id:=4) [0,1,2,3,4,5,6,7] [⟨[],[],8,[0,1,2,3,4,5],[9,10,11,12]⟩] vw vw ?_;refine rn F ?_))
 all_goals first|exact⟨rfl,rfl,(s,0),rfl,hs,fun _=>Sst.refl _⟩|exact⟨rfl,rfl,(s2,e2),rfl,hq2.1,fun h=>(q1.sv s.v).tr0 (hw s2 e2 hq2 h wy)⟩|skip
end
section
attribute [local go_sem] ba
@[go_sem] def tbD(a:Tx×Bool):DV:=.tup [.agg a.1.d,.bool a.2]
def Ad(k:Kn)(h:k.sm)(tx:Int):VCalls prog 122 [.agg k.d,.int .i64 tx] [] (QM tbD fun _=>True):=by
 refine dk Tryz.func122 ?_;have c1:=lM k h;have c2:=gF k.tx (Jc h.2.2.2.1.1 vj) tx;rcases QB k.tx tx with hn|⟨i,hil,hid,_⟩
 ·rw [hn] at c2;refine rn F ?_
  repeat' (first|with_reducible exact⟨⟩|(refine sB F ?_ ?_<;>intro hZ)|(refine Qs (c1) rfl ?_;rintro b -;refine rn F ?_)|refine vp F (c2) ?_)
  all_goals exact⟨rfl,rfl,(Tx0,false),rfl,trivial⟩
 rw[hid] at c2;have hg:=dx k.tx i hil;have F:=@hg;refine rn F ?_
 repeat' (first|with_reducible exact⟨⟩|(refine sB F ?_ ?_<;>intro hZ)|(refine Qs (c1) rfl ?_;rintro b hb;refine rn F ?_)|refine vp F (c2) ?_)
 all_goals first|exact⟨rfl,rfl,(k.tx.getD i Tx0,true),rfl,trivial⟩|exact⟨rfl,rfl,(Tx0,false),rfl,trivial⟩|skip
@[go_sem] def IY(a:Int×Int×Int×Bool):DV:=.tup [.int .i64 a.1,.agg [.int .i64 a.2.1,.int .i64 a.2.2.1],.bool a.2.2.2]
def IZ(k:Kn)(h:k.sm)(tx:Int):VCalls prog 99 [.agg k.d,.int .i64 tx] [] (QM IY fun _=>True):=by
 refine dk Tryz.func99 ?_;have h3:=h.2.2.1;have c1:=qi k.lk vz tx;have c2:=qk k.lk vz tx;have c3:=fun n=>Ad k h n;refine rn F ?_
 repeat' (first|with_reducible exact⟨⟩|(refine sB F ?_ ?_<;>intro hZ)|(refine Qs (c1) rfl ?_;rintro⟨g,b⟩ -;refine rn F ?_)|(refine Qs (c2) rfl ?_;rintro l hl;refine rn F ?_))
 all_goals first|exact⟨rfl,rfl,(0,0,0,false),rfl,trivial⟩|skip
 refine Qj (fun s:To l.length=>⟨44,0,[(28,.int .i64 s.i),(27,.int .i64 l.length),(26,.pv (.sl (fz Q7 l))),(7,.ptr 2 0),(5,.ptr 1 0),(2,.ptr 0 0)],[⟨39,true,k.d⟩,⟨88,true,[.int .i64 0,.int .i64 0]⟩,⟨221,true,g.d⟩]⟩) (fun s=>l.length-s.i) ⟨0,Jg _⟩ (gc [0,1,2]) ?_;rintro⟨i,hi⟩;dsimp only;have hx:=fun h:i<l.length=>bL l i h;have F:=@hx;refine rn F ?_
 repeat' (first|with_reducible exact⟨⟩|(refine sB F ?_ ?_<;>intro hZ)|(refine Qs (c3 _) rfl ?_;rintro⟨t,b3⟩ -;refine rn F ?_)|(refine Qf (id:=9) [0,1,2] [⟨[],[],3,[1,2],[]⟩,⟨[],[],4,[],[]⟩,⟨[],[],5,[],[]⟩] vw vw ?_;refine rn F ?_))
 all_goals first|exact⟨rfl,rfl,(_,g.pg,g.sl,true),rfl,trivial⟩|exact⟨rfl,rfl,(0,0,0,false),rfl,trivial⟩|exact⟨⟨i+1,vz⟩,vu,(gc [0,1,2])⟩|skip
def I0(k:Kn)(h:k.sm):VCalls prog 89 [.agg k.d] [] (QM ilD fun l=>l.length<=65):=by
 refine dk Tryz.func89 ?_;have h4:=h.2.2.2.1.1;have c3:=fun n=>Ad k h n;refine rn F ?_;refine VLoop.nilOwn 3 3 1 rfl ?_;refine rn trivial ?_;refine Qj (fun s:{s:Nat×List Int // s.1<=k.tx.length/\s.2.length<=s.1}=>⟨36,0,[(4,.int .i64 s.1.1),(3,.own 1 1 0 s.1.2.length),(1,.ptr 0 0)],[⟨39,true,k.d⟩,⟨3,true,cells Q7 s.1.2⟩]⟩) (fun s=>k.tx.length-s.1.1) ⟨(0,[]),vv⟩ (gc [0,1]) ?_;rintro⟨⟨i,out⟩,hi,ho⟩;dsimp only at hi ho |-;have hg:=fun h:i<k.tx.length=>dx k.tx i h;have hb:(out.length+1)*8<=140737488355328:=vz;have F:=(Ja @hg @hb)
 refine rn F ?_
 repeat' (first|with_reducible exact⟨⟩|(refine sB F ?_ ?_<;>intro hZ)|(refine Qs (c3 _) rfl ?_;rintro⟨t,b3⟩ -;refine rn F ?_)|(refine Qf (id:=5) [0,1,2,3,4,5,6] [⟨[11],[],7,[1,2,3,4,5],[8,9,10]⟩,⟨[11],[11],12,[10],[]⟩,⟨[],[],13,[],[]⟩] vw vw ?_;refine rn F ?_))
 all_goals first|exact⟨rfl,rfl,out,rfl,vz⟩|exact⟨⟨(i+1,out),vu,vu⟩,vu,(gc [0,1])⟩|exact⟨⟨(i+1,out++[(k.tx.getD i Tx0).id]),vu,vg⟩,vu,by dsimp only;rw[Jf];exact(gc [0,4])⟩|skip
@[go_sem] def I3(a:Sv×Nat×Int):DV:=.tup [.agg a.1.d,.int .i64 a.2.1,.int .i64 a.2.2]
def ceQ(s:Sv)(a:Sv×Nat×Int):Prop:=a.1.sm/\(a.2.2=0->Sst 0 s a.1/\a.2.1+s.k.lg.es.length<=a.1.k.lg.es.length)
structure Rn(s0:Sv) where
 s:Sv
 n:Nat
 sm:s.sm
 ev:Sst 0 s0 s
 up:n+s0.k.lg.es.length<=s.k.lg.es.length
def I4(s:Sv)(hs:s.sm)(tx pg sl:Int):VCalls prog 100 [.agg s.d,.int .i64 tx,.agg [.int .i64 pg,.int .i64 sl]] [] (QM I3 (ceQ s)):=by
 refine dk Tryz.func100 ?_;refine rn F ?_;refine Qj (fun r:Rn s=>⟨57,0,[(9,.int .i64 r.n),(6,.ptr 2 0),(5,.ptr 1 0),(3,.ptr 0 0),(1,.int .i64 tx)],[⟨77,true,r.s.d⟩,⟨88,true,[.int .i64 pg,.int .i64 sl]⟩,⟨77,true,Zv⟩]⟩) (fun r=>2*(4096-r.s.k.lg.es.length)+inP r.s.k.pl.fs pg) ⟨s,0,hs,Sst.refl _,vz⟩ (gc [0,1,2]) ?_;rintro⟨s1,n,sm,ev,up⟩;have hle:=sm.1.1;dsimp only;unfold Zv;have d1:=IL s1.k sm.1 tx pg sl;have d2:=fun p=>nW s1 sm p;refine rn F ?_
 repeat' (first|with_reducible exact⟨⟩|(refine sB F ?_ ?_<;>intro hZ)|(refine Qs (d1) rfl ?_;rintro⟨k1,r1⟩ hq;refine rn F ?_)|(refine Qs (d2 _) rfl ?_;rintro⟨s2,e2⟩ hq2;refine rn F ?_)|(refine Qf (id:=6) [0,1,2,3] [⟨[],[],4,[1,2,3],[]⟩,⟨[],[],5,[2,3],[]⟩,⟨[],[],6,[],[]⟩] vw vw ?_;refine rn F ?_))
 all_goals first|exact⟨rfl,rfl,(s1,n,_),rfl,sm,fun _=>⟨ev,up⟩⟩|skip
 ·obtain ⟨g1,g2,g3⟩:=hq.2.1 wx;have q2:=hq2.2 vu;dsimp only at g1 g2 g3 q2;rw[g2] at q2;have hl:=q2.1.ev.len;refine⟨⟨s2,n,hq2.1,ev.trans q2.1,vz⟩,?_,(gc [0,1,2])⟩;unfold inP;dsimp only;rw[if_pos q2.2.2,if_neg vz];omega
 ·obtain ⟨qe,q⟩:=hq.2.2.1 vu vu vu;have hk:=hq.1.1;have h1:=z7 k1.pl.fs pg;dsimp only at q hk;exact⟨⟨⟨k1,s1.v⟩,n+1,⟨hq.1,sm.2⟩,ev.st0 qe,vu⟩,vu,(gc [0,1,2])⟩
end
section
attribute [local go_sem] ba
def I5 (s:Sv) (hs:s.sm) (tx:Int) (a:Ac):VCalls prog 80 [.agg s.d,.int .i64 tx,.agg a.d] [] (QM srD (uu s)):=by
 refine dk Tryz.func80 ?_;refine rn F ?_;refine Qj (fun r:Re s=>⟨58,0,[(7,.ptr 3 0),(6,.ptr 2 0),(5,.ptr 1 0),(3,.ptr 0 0),(1,.int .i64 tx)],[⟨77,true,r.s.d⟩,⟨128,true,a.d⟩,⟨77,true,Zv⟩,⟨125,true,Zr⟩]⟩) (fun r=>4096-r.s.k.lg.es.length) ⟨s,hs,Sst.refl _⟩ (gc [0,1,2,3]) ?_;rintro⟨s1,sm,ev⟩;dsimp only;unfold Zv Zr;have d1:=IQ s1 sm tx a;have d2:=fun(t:Sv) (h:t.sm)=>IZ t.k h.1 tx;have d3:=fun(t:Sv) (h:t.sm)=>I4 t h;refine rn F ?_
 repeat' (first|with_reducible exact⟨⟩|(refine sB F ?_ ?_<;>intro hZ)|(refine Qs (d1) rfl ?_;rintro⟨s2,r2⟩ hq;refine rn F ?_)|(refine Qs (d2 s2 hq.1) rfl ?_;rintro⟨x,p,q,b⟩ -;refine rn F ?_)|(refine Qs (d3 s2 hq.1 _ _ _) rfl ?_;rintro⟨s3,n,e3⟩ hq3;refine rn F ?_)|refine vp F (dA _) ?_|(refine Qf (id:=4) [0,1] [⟨[],[],2,[1],[]⟩,⟨[],[],3,[],[]⟩] vw vw ?_;refine rn F ?_)|(refine Qf (id:=7) [0,1] [⟨[],[],2,[1],[]⟩,⟨[],[],3,[],[]⟩] vw vw ?_;refine rn F ?_)|(refine Qf (id:=11) [0,1] [⟨[],[],2,[0],[]⟩,⟨[],[],3,[1],[]⟩,⟨[],[],4,[],[]⟩] vw vw ?_;refine rn F ?_)|(refine Qf (id:=13) [0,1] [⟨[],[],2,[1],[]⟩,⟨[],[],3,[],[]⟩] vw vw ?_;refine rn F ?_))
 all_goals first
  |exact⟨rfl,rfl,(s2,r2),rfl,hq.1,fun h=>ev.trans (hq.2.1 h),fun h=>ev.tr0 (hq.2.2 h)⟩
  |exact⟨rfl,rfl,(s3,aJ e3),rfl,uv s s3 hq3.1 e3⟩
  | (have q3:=(hq3.2 vu).1
     have q4:=(ev.trans (hq.2.1 vu)).trans q3
     exact⟨rfl,rfl,(s3,r2),rfl,hq3.1,fun h=>q4,fun h=>q4.mono vz⟩)
  |skip
 have qz:=hq.2.1 vu;have q3:=hq3.2 vu;have h1:=qz.ev.len;have h2:=q3.2;have h3:=hq3.1.1.1;dsimp only at h1 h2 h3;exact⟨⟨s3,hq3.1,(ev.trans qz).trans q3.1⟩,vu,(gc [0,1,2,3])⟩
@[go_sem] def I6(a:Sv×Bool×Int):DV:=.tup [.agg a.1.d,.bool a.2.1,.int .i64 a.2.2]
def wkQ(s:Sv)(a:Sv×Bool×Int):Prop:=a.1.sm/\(a.2.2=0->Sst 0 s a.1)
def I7(s:Sv)(hs:s.sm):VCalls prog 63 [.agg s.d] [] (QM I6 (wkQ s)):=by
 refine dk Tryz.func63 ?_;have c1:=lM s.k hs.1;have c2:=fun n=>nW s hs n;have c3:=I0 s.k hs.1;have hg:=fun h:0<s.k.la.length=>iz s.k.la 0 h;have e0:∀e,e≠0->wkQ s (Sv0,false,e):=fun e h=>⟨fU,fun h2=>absurd h2 h⟩
 have F:=@hg;refine rn F ?_
 repeat' (first|with_reducible exact⟨⟩|(refine sB F ?_ ?_<;>intro hZ)|(refine Qs (c1) rfl ?_;rintro b -;refine rn F ?_)|(refine Qs (c2 _) rfl ?_;rintro⟨s2,e2⟩ hq;refine rn F ?_)|(refine Qs (c3) rfl ?_;rintro l hl;refine rn F ?_)|(refine Qf (id:=4) [0,1,2,3,4,5,6] [⟨[11],[],7,[1,2,3,4,5],[8,9,10]⟩,⟨[11],[11],12,[10],[]⟩,⟨[],[],13,[],[]⟩] vw vw ?_;refine rn F ?_))
 all_goals first|exact⟨rfl,rfl,(Sv0,false,15),rfl,e0 _ vj⟩|exact⟨rfl,rfl,(s,false,0),rfl,hs,fun _=>Sst.refl _⟩|exact⟨rfl,rfl,(s2,_,e2),rfl,hq.1,fun h=>(hq.2 h).1⟩|skip
 have hg0:=fun h:0<l.length=>bL l 0 h;generalize l.getD 0 0=tx at *;refine Qj (fun r:Re s=>⟨77,0,[(7,.pv (.sl (fz Q7 l))),(2,.ptr 1 0),(1,.ptr 0 0)],[⟨77,true,r.s.d⟩,⟨77,true,Zv⟩]⟩) (fun r=>rbM tx r.s) ⟨s,hs,Sst.refl _⟩ (gc [0,1]) ?_;rintro⟨s1,sm,ev⟩;dsimp only;unfold Zv;have d2:=zY s1.k sm.1 tx;have d3:=fun n=>nW s1 sm n;have F:=@hg0;refine rn F ?_
 repeat' (first|with_reducible exact⟨⟩|(refine sB F ?_ ?_<;>intro hZ)|(refine Qs (d2) rfl ?_;rintro⟨k1,r1⟩ hq;refine rn F ?_)|(refine Qs (d3 _) rfl ?_;rintro⟨s2,e2⟩ hq2;refine rn F ?_)|(refine Qf (id:=9) [0,1,2,3,4] [⟨[9,10],[],5,[0,2,3],[6,7,8]⟩,⟨[9,10],[9],11,[8],[]⟩,⟨[10],[10],12,[],[]⟩] vw vw ?_;refine rn F ?_)|(refine Qf (id:=11) [0,1,2] [⟨[],[],3,[1,2],[]⟩,⟨[],[],4,[1,2],[]⟩,⟨[],[],5,[],[]⟩] vw vw ?_;refine rn F ?_))
 all_goals first|exact⟨rfl,rfl,(Sv0,false,e2),rfl,e0 _ vq⟩|exact⟨rfl,rfl,(Sv0,false,r1.er),rfl,e0 _ (hq.2.2.2 vq)⟩|exact⟨rfl,rfl,(⟨k1,s1.v⟩,true,0),rfl,⟨hq.1,sm.2⟩,fun _=>ev.st0 (hq.2.2.1 vu vu).1⟩|skip
 obtain⟨v,_,g1,g2,g3⟩:=hq.2.1 wx;have q2:=hq2.2 vu;dsimp only at g1 g3 q2;rw[g1] at g3 q2;exact⟨⟨s2,hq2.1,ev.trans q2.1⟩,z9 q2.1.ev q2.2.1 g2 g3 q2.2.2,(gc [0,1])⟩
end
def lR:∀(l:List Int) (s:List UInt8),(cJ s l).length = s.length + 8 * l.length
 |[],s=>by simp[cJ]
 |a :: r,s=>by
   show(cJ (Ql s a 8) r).length=_
   rw[lR r,Qe,Jn];omega
def I8(s:List UInt8)(l:List Int)(i:Nat)(h:i<l.length):cJ s (l.take (i+1))=Ql (cJ s (l.take i)) (l.getD i 0) 8:=by
 rw[Jj h,cJ,JC,Qd l i h];rfl
def Ae(s:List UInt8)(l:List Int)(hb:s.length+8*l.length<=900000000):VCalls prog 191 [.pv (.str s),.pv (.sl (fz Q7 l))] [] (Ret (.pv (.str (cJ s l)))):=by
 refine dd Tryz.func191 ?_;refine rn F ?_;refine Qj (fun t:To l.length=>⟨19,0,[(5,.int .i64 t.i),(1,.pv (.sl (fz Q7 l))),(0,.pv (.str (cJ s (l.take t.i))))],[]⟩) (fun t=>l.length-t.i) ⟨0,Jg _⟩ (gc []) ?_;rintro⟨i,hi⟩;dsimp only;have hg:=fun h:i<l.length=>bL l i h;have hlen:=lR (l.take i) s;rw[Jq] at hlen;have p2:=Q4 (cJ s (l.take i)) vz (l.getD i 0) 8 vz vz;have hs:=I8 s l i;have F:=@hg;refine rn F ?_
 repeat' (first|with_reducible exact⟨⟩|(refine sB F ?_ ?_<;>intro hZ)|refine vp F (p2) ?_)
 ·refine ⟨⟨i + 1,vz⟩,vu,?_⟩;dsimp only;rw[hs vz];exact(gc [])
 ·rw[Jk vz]
def I9(s:List UInt8)(t:Tx):(dZ s t).length=s.length+24+8*t.l.length+8*t.s.length:=by
 unfold dZ;rw[lR,Qe,lR,Qe,Qe,Qe,Qe,Qe];omega
def ux:∀(l:List Tx) (s:List UInt8),(∀t ∈ l,t.l.length<=4096/\t.s.length<=8)->(ee s l).length<=s.length + 32856 * l.length
 |[],s,_=>by simp[ee]
 |t :: r,s,h=>by
   have h1:=h t vv;have h2:=ux r (dZ s t) fun t ht=>h t (List.mem_cons_of_mem _ ht);show(ee (dZ s t) r).length<=_
   rw[I9] at h2;rw[Jn];omega
def La(s:List UInt8)(l:List Tx)(i:Nat)(h:i<l.length):ee s (l.take (i+1))=dZ (ee s (l.take i)) (l.getD i Tx0):=by
 rw[Jj h,ee,JC,Qd l i h];rfl
def Af(hv:al l=true):∀t∈l,t.l.length<=4096/\t.s.length<=8:=fun t ht=>by
 obtain⟨i,hi,rfl⟩:=JM ht;exact je (eK hv hi)
def Ag(hv:al l=true):(aU l).length<=3000000:=by
 have:=ux l (Ql [] l.length 2) (Af hv);have h2:=lG hv;rw[Qe,Jr] at this;unfold aU;omega
def Lb(l:List Tx)(hl:smN 65 l)(hv:al l=true):VCalls prog 147 [.pv (.sl (fz ai l))] [] (Ret (.tup [.pv (.str (aU l)),.int .i64 0])):=by
 refine dd Tryz.func147 ?_;have c1:=j4 l (hl.smL vz);have hsm:=Af hv;have hle:=lG hv;rw[hv] at c1;unfold aU;have p1:=Q4 [] vv l.length 2 vz vz;refine rn F ?_
 repeat' (first|with_reducible exact⟨⟩|refine vp F (c1) ?_|refine vp F (p1) ?_)
 refine Qj (fun t:To l.length=>⟨56,0,[(5,.int .i64 t.i),(4,.pv (.str (ee (Ql [] l.length 2) (l.take t.i)))),(0,.pv (.sl (fz ai l)))],[]⟩) (fun t=>l.length-t.i) ⟨0,Jg _⟩ (gc []) ?_;rintro⟨i,hi⟩;dsimp only;have hg:=fun h:i<l.length=>dx l i h;have hlen:=ux (l.take i) (Ql [] l.length 2) fun t ht=>hsm t (JK ht);rw[Qe,Jq,Jr] at hlen;have hsc:=La (Ql [] l.length 2) l i;have hend:l.length<=i->l.take i=l:=fun h=>Jk h;by_cases hc:i<l.length
 ·have hq:=hsm (l.getD i Tx0) (by rw [Qd l i hc];exact Ji hc);replace hsc:=hsc hc;generalize ee (Ql [] l.length 2) (l.take i)=s at *;generalize l.getD i Tx0=x at *;obtain⟨id,st,n,b,q,sv⟩:=x;dsimp only at hg hq;obtain⟨hq1,hq2⟩:=hq;unfold dZ at hsc;dsimp only at hsc;have z0:s.length<=3000000:=vz;have p2:=Q4 s vz id 4 vz vz;have p3:=Q4 (Ql s id 4) (by rw[Qe];omega) st 1 vz vz;have p4:=Q4 (Ql (Ql s id 4) st 1) (by rw[Qe,Qe];omega) n 8 vz vz;have p5:=Q4 (Ql (Ql (Ql s id 4) st 1) n 8) (by rw[Qe,Qe,Qe];omega) b 8 vz vz;have p6:=Q4 (Ql (Ql (Ql (Ql s id 4) st 1) n 8) b 8) (by rw[Qe,Qe,Qe,Qe];omega) q.length 2 vz vz;have p6b:=Ae (Ql (Ql (Ql (Ql (Ql s id 4) st 1) n 8) b 8) q.length 2) q (by rw[Qe,Qe,Qe,Qe,Qe];omega);have p7:=Q4 (cJ (Ql (Ql (Ql (Ql (Ql s id 4) st 1) n 8) b 8) q.length 2) q) (by rw[lR,Qe,Qe,Qe,Qe,Qe];omega) sv.length 1 vz vz;have p7b:=Ae (Ql (cJ (Ql (Ql (Ql (Ql (Ql s id 4) st 1) n 8) b 8) q.length 2) q) sv.length 1) sv (by rw[Qe,lR,Qe,Qe,Qe,Qe,Qe];omega);have F:=@hg;refine rn F ?_
  repeat' (first|with_reducible exact⟨⟩|refine vp F (p2) ?_|refine vp F (p3) ?_|refine vp F (p4) ?_|refine vp F (p5) ?_|refine vp F (p6) ?_|refine vp F (p6b) ?_|refine vp F (p7) ?_|refine vp F (p7b) ?_|(refine Qf (id:=12) [0,1,2,3,5,6] [⟨[],[],4,[1,2,5,6],[]⟩,⟨[],[],7,[0,1,2,3,5],[]⟩,⟨[],[],8,[],[]⟩] vw vw ?_;refine rn F ?_)|(refine Qf (id:=13) [0,1,2,3,5,6] [⟨[],[],4,[1,2,5,6],[]⟩,⟨[],[],7,[0,1,2,3,5],[]⟩,⟨[],[],8,[],[]⟩] vw vw ?_;refine rn F ?_))
  refine⟨⟨i+1,vz⟩,vu,?_⟩;dsimp only;rw[hsc];exact(gc [])
 ·rw [hend vz];have F:=@hg;(refine rn F ?_;try with_reducible exact⟨⟩)
def qK:∀(l:List Rw) (s:List UInt8),(dz s l).length = s.length + 24 * l.length
 |[],s=>by simp[dz]
 |t :: r,s=>by
   show(dz (iB s t) r).length=_
   rw[qK r];unfold iB;rw[Qe,Qe,Qe,Jn];omega
def Ah(s:List UInt8)(l:List Rw)(i:Nat)(h:i<l.length):dz s (l.take (i+1))=iB (dz s (l.take i)) (l.getD i Rw0):=by
 rw[Jj h,dz,JC,Qd l i h];rfl
def Ai(l:List Rw):(ca l).length=2+24*l.length:=by
 unfold ca;rw[qK,Qe,Jr]
def Lc(l:List Rw)(hl:l.length<=64)(hv:ixB l=true):VCalls prog 148 [.agg [.pv (.sl (fz ay l))]] [] (Ret (.tup [.pv (.str (ca l)),.int .i64 0])):=by
 refine dd Tryz.func148 ?_;have c1:=lK l vz;have c2:=Q4 [] vv l.length 2 vz vz;rw[hv] at c1;unfold ca;refine rn F ?_
 repeat' (first|with_reducible exact⟨⟩|refine vp F (c1) ?_|refine vp F (c2) ?_)
 refine Qj (fun r:To l.length=>⟨45,0,[(5,.int .i64 r.i),(4,.pv (.str (dz (Ql [] l.length 2) (l.take r.i)))),(1,.ptr 0 0)],[⟨36,true,[.pv (.sl (fz ay l))]⟩]⟩) (fun r=>l.length-r.i) ⟨0,Jg _⟩ (gc [0]) ?_;rintro⟨i,hi⟩;dsimp only;have hg:=fun h:i<l.length=>nL l i h;have hlen:=qK (l.take i) (Ql [] l.length 2);rw[Qe,Jq,Jr] at hlen;have hsc:=Ah (Ql [] l.length 2) l i;have hend:l.length<=i->l.take i=l:=fun h=>Jk h;by_cases hc:i<l.length
 ·replace hsc:=hsc hc;generalize dz (Ql [] l.length 2) (l.take i)=s at *;generalize l.getD i Rw0=x at *;unfold iB at hsc;have p1:=Q4 s vz x.lsn 8 vz vz;have p2:=Q4 (Ql s x.lsn 8) (by rw[Qe];omega) x.im 8 vz vz;have p3:=Q4 (Ql (Ql s x.lsn 8) x.im 8) (by rw[Qe,Qe];omega) x.at_ 8 vz vz;have F:=@hg;refine rn F ?_
  repeat' (first|with_reducible exact⟨⟩|refine vp F (p1) ?_|refine vp F (p2) ?_|refine vp F (p3) ?_)
  refine⟨⟨i+1,vz⟩,vu,?_⟩;dsimp only;rw[hsc];exact(gc [0])
 ·rw [hend vz];have F:=@hg;(refine rn F ?_;try with_reducible exact⟨⟩)
section
attribute [local go_sem] fw
@[go_sem] def Cp.d(c:Cp):List DV:=[.int .i64 c.pg,.int .i64 c.nx,.pv (.sl (fz ai c.tx)),.pv (.sl (fz aF c.dl)),.pv (.sl (fz ay c.ix))]
def Cp0:Cp:=⟨0,0,[],[],[]⟩
def Cp.sm(c:Cp):Prop:=smN 65 c.tx/\c.dl.length<=10000/\c.ix.length<=64
def Ld:Cp0.sm:=⟨Q9 _,vj,vj⟩
@[go_sem] def Aj(a:Cp×Int):DV:=.tup [.agg a.1.d,.int .i64 a.2]
def Zc:List DV:=[.int .i64 0,.int .i64 0,.pv (.slc []),.pv (.slc []),.pv (.slc [])]
def jj(h:plB p=true)(hi:i<p.fs.length):frC p.fs i=true:=by
 unfold plB at h;grind
def Ak(h:frC l i=true)(hk:k<i):(l.getD k Fm0).pg.id≠(l.getD i Fm0).pg.id:=by
 unfold frC at h;rw[Jb,Jl] at h;have:=h.2 k (Jo.2 hk);unfold fR at this;grind
def uy(h:frC l i=true):0<=(l.getD i Fm0).pg.id/\(l.getD i Fm0).pg.id<64:=by
 unfold frC Pg.okB Pg.numB at h;grind
def qL(h:plB p=true)(hi:i<p.fs.length):idF p.fs (p.fs.getD i Fm0).pg.id=i:=by
 obtain⟨j,hj,h1,h2⟩:=qG (l:=p.fs) (a:=(p.fs.getD i Fm0).pg.id) ⟨i,hi,rfl⟩;rcases Nat.lt_trichotomy i j with h3|h3|h3
 ·exact absurd h2.symm (Ak (jj h hj) h3)
 ·rw[h1,h3]
 ·exact absurd h2 (Ak (jj h hi) h3)
structure DyL(p:Pl)(l:List Dt):Prop where
 le:l.length<=64
 to:∀d∈l,∃f∈p.fs,f.dirty=true/\f.pg.id=d.pg/\f.pg.lsn=d.last
 of:plB p=true->∀f∈p.fs,f.dirty=true->∃d∈l,d.pg=f.pg.id
structure DyI(p:Pl) where
 i:Nat
 out:List Dt
 hi:i<=64
 ho:out.length<=i
 to:∀d∈out,∃f∈p.fs,f.dirty=true/\f.pg.id=d.pg/\f.pg.lsn=d.last
 of:∀a:Nat,a<i->0<=idF p.fs a->(p.fs.getD (idF p.fs a).toNat Fm0).dirty=true->∃d∈out,d.pg=a
def Lf(p:Pl)(hl:p.fs.length<=100000):VCalls prog 145 [.agg p.d] [] (QM (fun l:List Dt=>.pv (.sl (fz aF l))) (DyL p)):=by
 refine dk Tryz.func145 ?_;have c1:=gJ p vz;have c2:=j9 p vz
 have hfin:=fun(out:List Dt) (h1:out.length<=64) (h2:∀ d∈out,∃ f∈p.fs,f.dirty=true/\f.pg.id=d.pg/\f.pg.lsn=d.last) (h3:plB p=true->∀ a:Nat,a<64->0<=idF p.fs a->(p.fs.getD (idF p.fs a).toNat Fm0).dirty=true->∃ d∈out,d.pg=a)=>(⟨h1,h2,fun hp f hf hd=>by
  obtain⟨i,hi,rfl⟩:=Jm.1 hf;have e1:=Qd p.fs i hi Fm0;have e2:=qL hp hi;have e3:=uy (jj hp hi);rw[e1] at e2 e3;obtain⟨m,hm⟩:∃m:Nat,(p.fs[i]).pg.id=m:=⟨(p.fs[i]).pg.id.toNat,vz⟩
  rw[hm] at e2 e3 |-
  exact h3 hp m vz vz (by rw[e2,Jh,e1]; exact hd)⟩:DyL p out)
 generalize plB p=b at *;refine rn F ?_
 repeat' (first|with_reducible exact⟨⟩|(refine sB F ?_ ?_<;>intro hZ)|refine vp F (c1) ?_)
 ·exact⟨rfl,rfl,[],rfl,hfin [] (Jg _) (fun d h=>by simp at h) (fun h=>by simp_all)⟩
 refine VLoop.nilOwn 3 187 3 rfl ?_;refine rn trivial ?_;refine Qj (fun s:DyI p=>⟨45,0,[(4,.int .i64 s.i),(3,.own 1 3 0 s.out.length),(1,.ptr 0 0)],[⟨29,true,p.d⟩,⟨187,true,cells aF s.out⟩]⟩) (fun s=>64-s.i) ⟨0,[],Jg _,Jg _,fun d h=>by simp at h,fun a h=>by omega⟩ (gc [0,1]) ?_;rintro⟨i,out,hi,ho,hto,hof⟩;dsimp only;have c3:=c2 i
 have hnx:=fun(out2:List Dt) (hs:∀ d∈out,d∈out2) (hn:0<=idF p.fs i->(p.fs.getD (idF p.fs i).toNat Fm0).dirty=true->∃ d∈out2,d.pg=i) (a:Nat) (ha:a<i+1) (h0:0<=idF p.fs a) (h1:(p.fs.getD (idF p.fs a).toNat Fm0).dirty=true)=>(by
  rcases JF a i with h2|h2
  ·obtain ⟨d,hd,he⟩:=hof a h2 h0 h1;exact⟨d,hs d hd,he⟩
  ·obtain rfl:a = i:=vz
   exact hn h0 h1:∃ d∈out2,d.pg=a)
 have hfi:64<=i->DyL p out:=fun h=>hfin out vz hto fun _ a ha=>hof a vz;rcases gK p.fs i with h|⟨j,hj,h,hpg⟩;all_goals rw[h] at c3
 ·rw [h] at hnx;refine rn F ?_
  repeat' (first|with_reducible exact⟨⟩|(refine sB F ?_ ?_<;>intro hZ)|refine vp F (c3) ?_)
  ·exact⟨⟨i+1,out,vz,vz,hto,hnx out (fun d h=>h) (fun h=>by omega)⟩,vu,(gc [0,1])⟩
  ·exact⟨rfl,rfl,out,rfl,hfi vz⟩
 ·have hg:=dQ p.fs j hj;have hb:(out.length+1)*24<=140737488355328:=vz;have hfm:p.fs.getD j Fm0∈p.fs:=by rw[Qd _ _ hj];exact Ji hj
  rw[h,Jh] at hnx;generalize p.fs.getD j Fm0=f at *;have F:=(Ja @hg @hb)
  refine rn F ?_
  repeat' (first|with_reducible exact⟨⟩|(refine sB F ?_ ?_<;>intro hZ)|refine vp F (c3) ?_|(refine Qf (id:=9) [0,1,2,3,4,5,6,7,8,9,10,11,12,13,14,15] [⟨[16],[16],17,[1,2,3,4,5,6,7,8,9,10,11,12,13,14,15],[]⟩,⟨[],[],18,[],[]⟩] vw vw ?_;refine rn F ?_))
  ·exact ⟨⟨i + 1,out ++ [⟨i,f.rc,f.pg.lsn⟩],vz,vg,fun d hd=>by
   rcases Jv.1 hd with hd|hd
   ·exact hto d hd
   ·rw[Jw.1 hd]; exact⟨f,hfm,wy,hpg,rfl⟩,hnx _ (fun d h=>Jt _ h) (fun _ _=>⟨⟨i,f.rc,f.pg.lsn⟩,vv,rfl⟩)⟩,vu,by dsimp only; rw[Jf]; exact(gc [0,3])⟩
  ·exact⟨⟨i+1,out,vz,vz,hto,hnx out (fun d h=>h) (fun _ h=>by simp_all)⟩,vu,(gc [0,1])⟩
  ·exact⟨rfl,rfl,out,rfl,hfi vz⟩
def Al(h:(d,true)=aM l n):d∈l/\d.pg=n:=by
 unfold aM at h;grind
def qM(h:(d,false)=aM l n):∀e∈l,e.pg≠n:=by
 unfold aM at h;grind
structure OfI(k:Kn)(n m:Nat)(out:List Dt):Prop where
 dl:∀d∈out,(∃e∈k.la,e.pg=d.pg/\e.last=d.last)\/∃f∈k.pl.fs,f.dirty=true/\f.pg.id=d.pg/\f.pg.lsn=d.last
 la:∀e∈k.la,0<=e.pg->e.pg<n->∃d∈out,d.pg=e.pg
 fs:∀f∈k.pl.fs,f.dirty=true->f.pg.id<m->∃d∈out,d.pg=f.pg.id
def OfI.ex (h:OfI k n m out) (hd:(∃e ∈ k.la,e.pg = d.pg/\e.last = d.last)\/∃f ∈ k.pl.fs,f.dirty = true/\f.pg.id = d.pg/\f.pg.lsn = d.last):OfI k n m (out ++ [d]) :=
 ⟨fun e he=>by
   rcases Jv.1 he with he|he
   ·exact h.dl e he
   ·rw[Jw.1 he];exact hd,
  fun e a b c=>by obtain⟨x,h1,h2⟩:=h.la e a b c;exact⟨x,Jt _ h1,h2⟩,
  fun e a b c=>by obtain⟨x,h1,h2⟩:=h.fs e a b c; exact⟨x,Jt _ h1,h2⟩⟩
def OfI.hit(h:OfI k n m out)(hd:(d,true)=aM k.la n):OfI k (n+1) m (out++[d]):=by
 obtain⟨h1,h2⟩:=Al hd;have:=h.ex (d:=d) (.inl ⟨d,h1,rfl,rfl⟩);refine⟨this.dl,fun e a b c=>?_,this.fs⟩;by_cases hn:e.pg=n
 ·exact⟨d,vv,by rw[h2,hn]⟩
 ·exact this.la e a b vz
def OfI.miss(h:OfI k n m out)(hd:(d,false)=aM k.la n):OfI k (n+1) m out:=
 ⟨h.dl,fun e a b c=>h.la e a b (by have:=qM hd e a;omega),h.fs⟩
def OfI.up(h:OfI k n m out)(hv:plB k.pl=true)(hl:DyL k.pl l)(hs:∀d∈l,d.pg=m->∃e∈out,e.pg=m):OfI k n (m+1) out:=
 ⟨h.dl,h.la,fun f a b c=>by
  by_cases hn:f.pg.id=m
  ·obtain ⟨d,h1,h2⟩:=hl.of hv f a b;rw[hn] at h2 |-;exact hs d h1 h2
  ·exact h.fs f a b vz⟩
structure OfL(k:Kn) where
 i:Nat
 out:List Dt
 hi:(i:Int)<=k.pg
 ho:out.length<=65*i
 h:OfI k i i out
structure OfJ(k:Kn)(i:Nat)(l:List Dt) where
 j:Nat
 out:List Dt
 hj:j<=l.length
 ho:out.length<=65*i+1+j
 h:OfI k (i+1) i out
 s:∀d∈l.take j,d.pg=i->∃e∈out,e.pg=i
def OfJ.nx(r:OfJ k i l)(hj:r.j<l.length)(out2:List Dt)(hs:∀d∈r.out,d∈out2)(hn:(l.getD r.j Dt0).pg=i->∃e∈out2,e.pg=i):∀d∈l.take (r.j+1),d.pg=i->∃e∈out2,e.pg=i:=fun d hd he=>by
 rw[Jj hj] at hd;rcases Jv.1 hd with hd|hd
 ·obtain ⟨x,h1,h2⟩:=r.s d hd he;exact⟨x,hs x h1,h2⟩
 ·rw [Jw.1 hd] at he;exact hn (by rw[Qd _ _ hj];exact he)
def Lh(k:Kn)(a:Cp×Int):Prop:=a.1.sm/\(a.2=0->CkOf k a.1)
def Li(k:Kn)(h:k.sm):VCalls prog 108 [.agg k.d] [] (QM Aj (Lh k)):=by
 refine dk Tryz.func108 ?_;have c1:=gN k h;obtain⟨h1,h2,h3,h4,h5,h6⟩:=h;have c2:=fun n=>qv k vz n;have c3:=Lf k.pl vz;refine rn F ?_;cases hv:kB k
 ·rw [hv] at c1;refine rn F ?_
  repeat' (first|with_reducible exact⟨⟩|refine vp F (c1) ?_)
  exact⟨rfl,rfl,(Cp0,15),rfl,Ld,fun h=>by simp at h⟩
 rw[hv] at c1;obtain⟨⟨vk,_,vla⟩,v2⟩:=(⟨qw hv,lL hv⟩:VP k/\V2 k)
 have hpg:=vk.1;have hpl:=vk.2.2.2.1
 have hend:∀ (i:Nat) out,(i:Int)=k.pg->OfI k i i out->CkOf k ⟨k.pg,k.nx,k.tx,out,k.ix⟩:=fun i out hi ho=>⟨rfl,rfl,rfl,rfl,ho.dl,fun e he=>by
  obtain⟨j,hj,rfl⟩:=Jm.1 he;unfold laB at vla;rw[Jl] at vla;have:=(tW _ _ _).1 (vla j (Jo.2 hj));rw[Qd _ _ hj] at this;exact ho.la _ he this.1 vz,fun f hf hd=>by
  obtain⟨j,hj,rfl⟩:=Jm.1 hf;have:=(v2.frs j hj).1;rw[Qd _ _ hj] at this
  exact ho.fs _ hf hd vz⟩
 refine rn F ?_
 repeat' (first|with_reducible exact⟨⟩|refine vp F (c1) ?_)
 refine VLoop.nilOwnC 2 3 187 3 rfl rfl ?_;refine rn trivial ?_
 refine Qj (fun s:OfL k=>⟨62,0,[(5,.int .i64 s.i),(4,.ptr 2 0),(2,.ptr 1 0),(1,.ptr 0 0)],[⟨39,true,k.d⟩,⟨211,true,Zc⟩,⟨211,true,[.int .i64 k.pg,.int .i64 k.nx,.pv (.sl (fz ai k.tx)),.own 3 3 0 s.out.length,.pv (.sl (fz ay k.ix))]⟩,⟨187,true,cells aF s.out⟩]⟩) (fun s=>64-s.i) ⟨0,[],vz,vv,⟨fun d h=>by simp at h,fun e _ _ h=>by omega,fun f hf hd h=>by
  obtain⟨j,hj,rfl⟩:=Jm.1 hf;have:=uy (jj hpl hj);rw[Qd _ _ hj] at this
  omega⟩⟩ (gc [0,1,2,3]) ?_
 rintro⟨i,out,hi,ho,hI⟩;dsimp only;unfold Zc;have hb1:(out.length+1)*24<=140737488355328:=vz;by_cases hc:(i:Int)<k.pg;rotate_left
 ·skip
  have F:=@hc;refine rn F ?_;exact⟨rfl,rfl,(⟨k.pg,k.nx,k.tx,out,k.ix⟩,0),rfl,⟨h4,vu,h5⟩,fun _=>hend i out vz hI⟩
 have F:=(Ja @hb1 @hc)
 refine rn F ?_;refine Qs (c2 i) rfl ?_;rintro⟨d,b2⟩ hdl;have hdl2:=hdl;cases b2;case' false=>have hI2:=hI.miss hdl
 case' true=>have hI2:=hI.hit hdl
 all_goals clear hdl hdl2
 all_goals
  have F:=(Ja @hb1 @hc)
  refine rn F ?_;refine Qs c3 rfl ?_;rintro l hl;have hll:=hl.le;have F:=(Ja @hb1 @hc)
  (refine rn F ?_;try with_reducible exact⟨⟩)
 all_goals
  first|refine Qj (fun s:OfJ k i l=>⟨62,0,[(46,.int .i64 s.j),(45,.int .i64 l.length),(44,.pv (.sl (fz aF l))),(5,.int .i64 i),(4,.ptr 2 0),(2,.ptr 1 0),(1,.ptr 0 0)],[⟨39,true,k.d⟩,⟨211,true,Zc⟩,⟨211,true,[.int .i64 k.pg,.int .i64 k.nx,.pv (.sl (fz ai k.tx)),.own 3 3 0 s.out.length,.pv (.sl (fz ay k.ix))]⟩,⟨187,true,cells aF s.out⟩]⟩) (fun s=>l.length-s.j) ⟨0,out++[d],Jg _,by rw[Jf];simp;omega,hI2,fun d h=>by simp at h⟩ (by dsimp only;rw[Jf];exact(gc [0,1,2,6])) ?_|refine Qj (fun s:OfJ k i l=>⟨62,0,[(46,.int .i64 s.j),(45,.int .i64 l.length),(44,.pv (.sl (fz aF l))),(5,.int .i64 i),(4,.ptr 2 0),(2,.ptr 1 0),(1,.ptr 0 0)],[⟨39,true,k.d⟩,⟨211,true,Zc⟩,⟨211,true,[.int .i64 k.pg,.int .i64 k.nx,.pv (.sl (fz ai k.tx)),.own 3 3 0 s.out.length,.pv (.sl (fz ay k.ix))]⟩,⟨187,true,cells aF s.out⟩]⟩) (fun s=>l.length-s.j) ⟨0,out,Jg _,vz,hI2,fun d h=>by simp at h⟩ (gc [0,1,2,3]) ?_
  rintro⟨j,o2,hj,ho2,hJ,hs2⟩;dsimp only;unfold Zc;have hb2:(o2.length+1)*24<=140737488355328:=vz;have hnx:=fun h=>OfJ.nx ⟨j,o2,hj,ho2,hJ,hs2⟩ h;dsimp only at hnx;by_cases hjl:j<l.length;rotate_left
  ·have hup:=hJ.up hpl hl (by rw [Jk vz] at hs2;exact hs2);have F:=@hjl;refine rn F ?_;exact⟨⟨i+1,o2,vz,vz,hup⟩,vu,(gc [0,1,2,3])⟩
  have hy:=iz l j hjl;have hto:=hl.to (l.getD j Dt0) (by rw[Qd _ _ hjl];exact Ji hjl);replace hnx:=hnx hjl;generalize l.getD j Dt0=x at *;have F:=(Ja @hy (Ja @hb2 @hjl))
  refine rn F ?_
  repeat' (first|with_reducible exact⟨⟩|(refine sB F ?_ ?_<;>intro hZ))
 all_goals first|exact⟨⟨j+1,o2,hjl,vz,hJ,hnx o2 (fun d h=>h) (fun h=>absurd h vq)⟩,vu,(gc [0,1,2,3])⟩|exact⟨⟨j+1,o2++[x],hjl,vg,hJ.ex (.inr hto),hnx _ (fun d h=>Jt _ h) (fun _=>⟨x,vv,vq⟩)⟩,vu,by dsimp only;rw[Jf];exact(gc [0,1,2,6])⟩|skip
end
end Go.Proofs.YtalibkpienbliaaGreat
