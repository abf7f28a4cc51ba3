/-
  Contracts of functions and plain laws. No condition.
-/
import Derived.Test.YtdnbdbgdfocpgaaGreatP1
import Derived.Test.YtdnbdbgdfocpgaaGreatV3
set_option linter.unusedSimpArgs false
set_option linter.unusedVariables false
set_option linter.defProp false
set_option maxRecDepth 100000
set_option maxHeartbeats 8000000
set_option autoImplicit true
set_option relaxedAutoImplicit true
open And renaming intro->Jd
open Bool renaming and_eq_true->Jc,true_and->J9
open Int renaming toNat_natCast->Jj,le_refl->Jz,lt_of_lt_of_le->JR,le_trans->Kd
open List renaming getD_eq_getElem?_getD->Ja,mem_iff_getElem->Jb,length_append->Jf,getElem_mem->Jg,mem_singleton->Jh,mem_append->Ji,mem_append_left->Jl,replicate->Jm,take_succ_eq_append_getElem->Jn,length_set->Jo,all_eq_true->Jp,length_take->Jq,length_cons->Jr,getElem_map->Js,take_of_length_le->Jt,mem_range->Ju,getElem?_append_right->Jv,range->Jw,length_replicate->Jy,length_nil->JA,foldl_append->JB,mem_filter->JC,getElem?_eq_none->JD,getElem_set_self->JE,mem_of_mem_take->JF,getElem?_append_left->JG,pairwise_iff_getElem->JH,getElem_set_ne->JI,getElem?_eq_getElem->JJ,getElem?_set_self->JK,map_nil->JM,eq_nil_of_length_eq_zero->JN,mem_of_mem_drop->JO,getElem?_set_ne->JP,map_cons->JQ,mem_of_find?_eq_some->JS,length_drop->JV,any_eq_true->JW,length_filter_le->JY,set_append_right->J1,getElem_of_mem->J2,find?_eq_none->J3,mem_map->J4,prefix_rfl->J6,find?_some->J7,nodup_nil->J8,mem_cons->Ka,map_set->Kc
open Nat renaming le_trans->Je,zero_le->Jk,lt_trichotomy->JL,le_refl->JT,add_sub_cancel_left->JU,lt_or_ge->JZ,sub_self->J0,le_add_right->J5,zero_add->Kb
open Option renaming getD_some->JX
namespace Go.Proofs.YtdnbdbgdfocpgaaGreat
open Go.V Go
open Tryz (prog)
def Qhk(x:Lg):Int:=if lgB x=true then x.end_ else 0
def Qgf(x:Lg)(hx:x.es.length<=9223372036854775807):VCalls prog 8 [.agg x.c] [] (Ret (.int .i64 (Qhk x))):=by
 refine dd Tryz.func8 ?_
 have c1:=Qas x hx
 have c2:=QgY x
 have hh:=@Q9 x
 simp only[Lg.hd] at hh
 unfold Qhk
 generalize lgB x=b at *
 cases b
 ·(unfold Tryz.f8; refine rn trivial ?_; try with_reducible exact ⟨⟩)
  refine rn F ?_
  repeat' (first
   | with_reducible exact⟨⟩
   | refine vp F (c1) ?_)
  all_goals rfl
 ·replace hh:=hh rfl
  (unfold Tryz.f8; refine rn trivial ?_)
  refine rn F ?_
  repeat' (first
   | with_reducible exact⟨⟩
   | refine vp F (c1) ?_
   | refine vp F (c2 (by omega) (by omega)) ?_)
  all_goals rfl
def QsS(x:Lg)(hx:x.es.length<=9223372036854775807)(e:E):VCalls prog 147 [.agg x.c,.agg e.d] [] (Ret (QEp (Qeg x e))):=by
 refine dk Tryz.func147 ?_
 have c1:=Qas x hx
 have c2:=QgY x
 have c3:=Qcy { e with lsn:=x.end_+1 }
 have hh:=@Q9 x
 have he:=@Qtw x
 simp only[Lg.hd] at hh
 have e0:Qeg x e=if lgB x=false then (Lg0,0,26) else if x.es.length=4096\/1099511627776<x.end_+1 then (Lg0,0,21)
  else if ({ e with lsn:=x.end_+1 }:E).okB=false then (Lg0,0,12) else (⟨x.f,x.es++[{ e with lsn:=x.end_+1 }],x.d⟩,x.end_+1,0):=rfl
 unfold QEp
 generalize Qeg x e=r at *
 generalize lgB x=b at *
 obtain⟨lsn,kind,tx,ptx,ppg,ref,c,blob⟩:=e
 dsimp only at c3 e0 |-
 cases b
 ·(unfold Tryz.f147; refine rn trivial ?_; try with_reducible exact ⟨⟩)
  refine rn F ?_
  repeat' (first
   | with_reducible exact⟨⟩
   | refine vp F (c1) ?_)
  all_goals (first | (rw[e0]; simp(disch:=first | assumption | omega | exact rfl | exact nf (by assumption) | exact nt (by assumption) | decide | fail) only[if_pos,if_neg]; first | done | rfl) | (rw[e0]; simp(disch:=first | assumption | omega | exact rfl | exact nf (by assumption) | exact nt (by assumption) | decide | (simp_all; done) | fail) only[if_pos,if_neg]; first | done | rfl))
 ·replace hh:=hh rfl
  replace he:=he rfl
  have hdef:x.end_=x.f+x.es.length-1:=rfl
  have hl:=Qdi x.es ⟨x.end_+1,kind,tx,ptx,ppg,ref,c,blob⟩
  dsimp only at hl
  have hb:(x.es.length+1)*128<=140737488355328:=by omega
  generalize (⟨x.end_+1,kind,tx,ptx,ppg,ref,c,blob⟩:E).okB=ok at *
  generalize x.end_=en at *
  (unfold Tryz.f147; refine rn trivial ?_)
  have F:=(Jd @hb @hl)
  refine rn F ?_
  repeat' (first
   | with_reducible exact⟨⟩
   | (refine sG F ?_ ?_<;>intro hZ)
   | (refine sB F ?_ ?_<;>intro hZ)
   | refine vp F (c1) ?_
   | refine vp F (c2 (by omega) (by omega)) ?_
   | refine vp F (c3) ?_
   | (refine Qc (id:=8) [0,1,3] [⟨[4],[],2,[0,3],[]⟩,⟨[4],[4],5,[0,1,3],[6]⟩,⟨[],[],7,[],[]⟩] (by kernel_rfl) (by kernel_rfl) ?_; refine rn F ?_)
   | (refine Qc (id:=9) [0,1,2] [⟨[],[],3,[1,2],[]⟩,⟨[],[],4,[],[]⟩,⟨[],[],5,[],[]⟩] (by kernel_rfl) (by kernel_rfl) ?_; refine rn F ?_))
  all_goals first | (first | (rw[e0]; simp(disch:=first | assumption | omega | exact rfl | exact nf (by assumption) | exact nt (by assumption) | decide | fail) only[if_pos,if_neg]; first | done | rfl) | (rw[e0]; simp(disch:=first | assumption | omega | exact rfl | exact nf (by assumption) | exact nt (by assumption) | decide | (simp_all; done) | fail) only[if_pos,if_neg]; first | done | rfl)) | skip
def QjF(x:Lg)(hx:x.es.length<=9223372036854775807)(n:Int):VCalls prog 9 [.agg x.c,.int .i64 n] [] (Ret (lgD (Q4 x n))):=by
 refine dk Tryz.func9 ?_
 have c1:=Qas x hx
 have c2:=QgY x
 have hh:=@Q9 x
 simp only[Lg.hd] at hh
 have e0:Q4 x n=if lgB x=false then (Lg0,26) else if x.end_<n then (Lg0,14) else (⟨x.f,x.es,if n > x.d then n else x.d⟩,0):=rfl
 unfold lgD
 generalize Q4 x n=r at *
 generalize lgB x=b at *
 cases b
 ·(unfold Tryz.f9; refine rn trivial ?_; try with_reducible exact ⟨⟩)
  refine rn F ?_
  repeat' (first
   | with_reducible exact⟨⟩
   | refine vp F (c1) ?_)
  all_goals (first | (rw[e0]; simp(disch:=first | assumption | omega | exact rfl | exact nf (by assumption) | exact nt (by assumption) | decide | fail) only[if_pos,if_neg]; first | done | rfl) | (rw[e0]; simp(disch:=first | assumption | omega | exact rfl | exact nf (by assumption) | exact nt (by assumption) | decide | (simp_all; done) | fail) only[if_pos,if_neg]; first | done | rfl))
 ·replace hh:=hh rfl
  (unfold Tryz.f9; refine rn trivial ?_)
  refine rn F ?_
  repeat' (first
   | with_reducible exact⟨⟩
   | (refine sB F ?_ ?_<;>intro hZ)
   | refine vp F (c1) ?_
   | refine vp F (c2 (by omega) (by omega)) ?_)
  all_goals first | (first | (rw[e0]; simp(disch:=first | assumption | omega | exact rfl | exact nf (by assumption) | exact nt (by assumption) | decide | fail) only[if_pos,if_neg]; first | done | rfl) | (rw[e0]; simp(disch:=first | assumption | omega | exact rfl | exact nf (by assumption) | exact nt (by assumption) | decide | (simp_all; done) | fail) only[if_pos,if_neg]; first | done | rfl)) | skip
def Qbr(x:Lg)(n:Int):E×Int:=if lgB x=false then (E0,26) else if n<x.f\/x.end_<n then (E0,14) else (x.es.getD (n-x.f).toNat E0,0)
def QiH(x:Lg)(hx:x.es.length<=9223372036854775807)(n:Int):VCalls prog 148 [.agg x.c,.int .i64 n] [] (Ret (.tup [.agg (Qbr x n).1.d,.int .i64 (Qbr x n).2])):=by
 refine dk Tryz.func148 ?_
 have c1:=Qas x hx
 have c2:=QgY x
 have hh:=@Q9 x
 simp only[Lg.hd] at hh
 have e0:Qbr x n=if lgB x=false then (E0,26) else if n<x.f\/x.end_<n then (E0,14) else (x.es.getD (n-x.f).toNat E0,0):=rfl
 generalize Qbr x n=r at *
 generalize lgB x=b at *
 cases b
 ·(unfold Tryz.f148; refine rn trivial ?_; try with_reducible exact ⟨⟩)
  refine rn F ?_
  repeat' (first
   | with_reducible exact⟨⟩
   | refine vp F (c1) ?_)
  all_goals (first | (rw[e0]; simp(disch:=first | assumption | omega | exact rfl | exact nf (by assumption) | exact nt (by assumption) | decide | fail) only[if_pos,if_neg]; first | done | rfl) | (rw[e0]; simp(disch:=first | assumption | omega | exact rfl | exact nf (by assumption) | exact nt (by assumption) | decide | (simp_all; done) | fail) only[if_pos,if_neg]; first | done | rfl))
 ·replace hh:=hh rfl
  have hdef:x.end_=x.f+x.es.length-1:=rfl
  generalize x.end_=en at *
  have hg:=fun h:(n-x.f).toNat<x.es.length=>QeR x.es (n-x.f).toNat h
  (unfold Tryz.f148; refine rn trivial ?_)
  have F:=@hg
  refine rn F ?_
  repeat' (first
   | with_reducible exact⟨⟩
   | (refine sG F ?_ ?_<;>intro hZ)
   | (refine sB F ?_ ?_<;>intro hZ)
   | refine vp F (c1) ?_
   | refine vp F (c2 (by omega) (by omega)) ?_)
  all_goals first | (first | (rw[e0]; simp(disch:=first | assumption | omega | exact rfl | exact nf (by assumption) | exact nt (by assumption) | decide | fail) only[if_pos,if_neg]; first | done | rfl) | (rw[e0]; simp(disch:=first | assumption | omega | exact rfl | exact nf (by assumption) | exact nt (by assumption) | decide | (simp_all; done) | fail) only[if_pos,if_neg]; first | done | rfl)) | skip
def QpQ(n:Int):Bool:=decide (0<=n)&&decide (n<=1099511627776)
def Qso(n:Int):VCalls prog 205 [.int .i64 n] [] (Ret (.bool (QpQ n))):=by
 refine dd Tryz.func205 ?_
 (unfold Tryz.f205; refine rn trivial ?_)
 refine rn F ?_
 repeat' (first
  | with_reducible exact⟨⟩
  | (refine sG F ?_ ?_<;>intro hZ))
 all_goals (first | rfl | (congr 3; rw[Bool.eq_iff_iff]; (try simp only[QpQ,decide_eq_true_eq,Jc,Bool.or_eq_true,Bool.not_eq_true',Bool.not_eq_false',decide_eq_false_iff_not,beq_iff_eq,bne_iff_ne,ne_eq,Bool.false_eq_true,Bool.true_eq_false,iff_true,true_iff,iff_false,false_iff]); first | done | omega | grind))
def QAt(l:List Rw)(i:Nat):Bool:=QpQ (l.getD i Rw0).lsn&&QpQ (l.getD i Rw0).im&&QpQ (l.getD i Rw0).at_&&!(decide ((l.getD i Rw0).im=0)&&!decide ((l.getD i Rw0).at_=0))
def ixB(l:List Rw):Bool:=decide (1<=l.length)&&decide (l.length<=64)&&(Jw l.length).all (QAt l)
def QtG(h:ixB l=true):1<=l.length/\l.length<=64:=by
 unfold ixB at h; simp only[Jc,decide_eq_true_eq] at h; exact h.1
def QbF(l:List Rw)(hl:l.length<=1000000):VCalls prog 157 [.agg [.pv (.sl (fz Qcc l))]] [] (Ret (.bool (ixB l))):=by
 refine dd Tryz.func157 ?_
 have hB:ixB l=(decide (1<=l.length)&&decide (l.length<=64)&&(Jw l.length).all (QAt l)):=rfl
 have hB':1<=l.length->l.length<=64->ixB l=(Jw l.length).all (QAt l):=fun h h2=>by rw[hB,decide_eq_true h,decide_eq_true h2,J9,J9]
 have no:¬ (1<=l.length/\l.length<=64)->ixB l=false:=fun h=>by
  rw[hB]
  by_cases h1:1<=l.length
  ·rw[decide_eq_false (show ¬ l.length<=64 from fun h2=>h ⟨h1,h2⟩)]; simp
  ·rw[decide_eq_false h1]; rfl
 generalize ixB l=b at *
 (unfold Tryz.f157; refine rn trivial ?_)
 refine rn F ?_
 repeat' (first
  | with_reducible exact⟨⟩
  | (refine sG F ?_ ?_<;>intro hZ)
  | (refine sB F ?_ ?_<;>intro hZ))
 all_goals first | (rw[no (by omega)]) | skip
 refine Qi (fun s:Okay l.length (QAt l)=>⟨53,0,[(3,.int .i64 s.i),(1,.ptr 0 0)],[⟨38,true,[.pv (.sl (fz Qcc l))]⟩]⟩) (fun s=>l.length-s.i) (Okay.start _ _) (gc [0]) ?_
 intro s
 have hsi:=s.hi
 have hg:=fun h:s.i<l.length=>QlT l s.i h
 have e:QAt l s.i=(QpQ (l.getD s.i Rw0).lsn&&QpQ (l.getD s.i Rw0).im&&QpQ (l.getD s.i Rw0).at_&&!(decide ((l.getD s.i Rw0).im=0)&&!decide ((l.getD s.i Rw0).at_=0))):=rfl
 have c1:=Qso (l.getD s.i Rw0).lsn
 have c2:=Qso (l.getD s.i Rw0).im
 have c3:=Qso (l.getD s.i Rw0).at_
 generalize QpQ (l.getD s.i Rw0).lsn=b1 at *
 generalize QpQ (l.getD s.i Rw0).im=b2 at *
 generalize QpQ (l.getD s.i Rw0).at_=b3 at *
 have F:=@hg
 refine rn F ?_
 repeat' (first
  | with_reducible exact⟨⟩
  | (refine sG F ?_ ?_<;>intro hZ)
  | (refine sB F ?_ ?_<;>intro hZ)
  | refine vp F (c1) ?_
  | refine vp F (c2) ?_
  | refine vp F (c3) ?_)
 all_goals first
  | (exact congrArg DV.bool (s.no (by omega) (hB' (by omega) (by omega)) (by rw[e]; simp_all)).symm)
  | (exact congrArg DV.bool (s.yes (by omega) (hB' (by omega) (by omega))).symm)
  | (exact⟨s.next (by omega) (by rw[e]; simp_all),s.dec (by omega),(gc [0])⟩)
  | skip
def Qz9(l:List Rw)(i:Nat)(r:Rw)(hi:i<l.length):(cells Qcc l).take (i*3)++[.pv (.lit (.int .i64 r.lsn)),.pv (.lit (.int .i64 r.im)),.pv (.lit (.int .i64 r.at_))]++(cells Qcc l).drop (i*3+3)=cells Qcc (l.set i r):=QnY Qcc l i r hi
def QwC(l:List Rw)(hl:l.length<=1000000)(i:Nat)(hi:i<l.length)(r:Rw):VCalls prog 193 [.agg [.pv (.sl (fz Qcc l))],.int .i64 i,.agg r.d] [] (Ret (.agg [.pv (.sl (fz Qcc (l.set i r)))])):=by
 refine dd Tryz.func193 ?_
 have hb:i*3+3<=l.length*3:=by omega
 have hse:=Qz9 l i r hi
 have hle:(l.set i r).length=l.length:=Jo
 (unfold Tryz.f193; refine rn trivial ?_)
 have F:=(Jd @hb (Jd @hse @hle))
 (refine rn F ?_; try with_reducible exact⟨⟩)
def QeF{e:E}(h:e.okB=true)(hk:e.kind=1\/e.kind=2\/e.kind=7):0<=e.c.pg/\e.c.pg<64:=by
 unfold E.okB at h
 simp only[Jc] at h
 have h2:=h.2
 unfold E.kindB Ch.okB Ch.ix at h2
 rcases hk with hk | hk | hk<;>rw[hk] at h2<;>simp at h2<;>omega
def Qbq(l:List Rw)(e:E):List Rw×Int:=
 if ixB l=false then ([],28) else if e.okB=false then ([],12) else if e.kind≠7 then (l,0) else if (l.length:Int)<=e.c.pg then ([],1)
 else (l.set e.c.pg.toNat ⟨if e.ref > (l.getD e.c.pg.toNat Rw0).lsn then e.ref else (l.getD e.c.pg.toNat Rw0).lsn,(l.getD e.c.pg.toNat Rw0).im,(l.getD e.c.pg.toNat Rw0).at_⟩,0)
def Qk6(l:List Rw)(hl:l.length<=1000000)(e:E):VCalls prog 150 [.agg [.pv (.sl (fz Qcc l))],.agg e.d] [] (Ret (.tup [.agg [.pv (.sl (fz Qcc (Qbq l e).1))],.int .i64 (Qbq l e).2])):=by
 refine dk Tryz.func150 ?_
 have c1:=QbF l hl
 have c2:=Qcy e
 have c3:=fun i hi=>QwC l hl i hi
 have hp:=@QeF e
 have hp1:=hp
 have e0:Qbq l e=if ixB l=false then ([],28) else if e.okB=false then ([],12) else if e.kind≠7 then (l,0) else if (l.length:Int)<=e.c.pg then ([],1)
  else (l.set e.c.pg.toNat ⟨if e.ref > (l.getD e.c.pg.toNat Rw0).lsn then e.ref else (l.getD e.c.pg.toNat Rw0).lsn,(l.getD e.c.pg.toNat Rw0).im,(l.getD e.c.pg.toNat Rw0).at_⟩,0):=rfl
 generalize Qbq l e=r at *
 generalize ixB l=b at *
 cases hok:e.okB
 ·rw [hok] at c2 e0
  (unfold Tryz.f150; refine rn trivial ?_)
  refine rn F ?_
  repeat' (first
   | with_reducible exact⟨⟩
   | (refine sB F ?_ ?_<;>intro hZ)
   | refine vp F (c1) ?_
   | refine vp F (c2) ?_)
  all_goals first | (first | (rw[e0]; simp(disch:=first | assumption | omega | exact rfl | exact nf (by assumption) | exact nt (by assumption) | decide | fail) only[if_pos,if_neg]; first | done | rfl) | (rw[e0]; simp(disch:=first | assumption | omega | exact rfl | exact nf (by assumption) | exact nt (by assumption) | decide | (simp_all; done) | fail) only[if_pos,if_neg]; first | done | rfl)) | skip
 rw[hok] at c2 e0
 by_cases hk:e.kind=7
 ·obtain ⟨i,hi⟩:∃ i:Nat,e.c.pg = i:=⟨e.c.pg.toNat,by have:=hp hok (.inr (.inr hk)); omega⟩
  rw[hi,Jj] at e0
  have hg:=fun h:i<l.length=>QlT l i h
  generalize l.getD i Rw0=w at *
  (unfold Tryz.f150; refine rn trivial ?_)
  have F:=(Jd @hi (Jd @hg @hk))
  refine rn F ?_
  repeat' (first
   | with_reducible exact⟨⟩
   | (refine sB F ?_ ?_<;>intro hZ)
   | refine vp F (c1) ?_
   | refine vl F (c2) ?_
   | refine vp F (c3 i (by omega) ⟨_,_,_⟩) ?_)
  all_goals first | (first | (rw[e0]; simp(disch:=first | assumption | omega | exact rfl | exact nf (by assumption) | exact nt (by assumption) | decide | fail) only[if_pos,if_neg]; first | done | rfl) | (rw[e0]; simp(disch:=first | assumption | omega | exact rfl | exact nf (by assumption) | exact nt (by assumption) | decide | (simp_all; done) | fail) only[if_pos,if_neg]; first | done | rfl)) | skip
 ·(unfold Tryz.f150; refine rn trivial ?_; try with_reducible exact ⟨⟩)
  have F:=@hk
  refine rn F ?_
  repeat' (first
   | with_reducible exact⟨⟩
   | (refine sB F ?_ ?_<;>intro hZ)
   | refine vp F (c1) ?_
   | refine vp F (c2) ?_)
  all_goals first | (first | (rw[e0]; simp(disch:=first | assumption | omega | exact rfl | exact nf (by assumption) | exact nt (by assumption) | decide | fail) only[if_pos,if_neg]; first | done | rfl) | (rw[e0]; simp(disch:=first | assumption | omega | exact rfl | exact nf (by assumption) | exact nt (by assumption) | decide | (simp_all; done) | fail) only[if_pos,if_neg]; first | done | rfl)) | skip
def Tx.ss(t:Tx):Prop:=t.l.length<=100000/\t.s.length<=100000
def Tx.ss.sm{t:Tx}(h:t.ss):t.sm:=⟨Je h.1 (by decide),Je h.2 (by decide)⟩
def smN(n:Nat)(l:List Tx):Prop:=l.length<=n/\∀ t∈l,t.ss
def smN.smL{n:Nat}{l:List Tx}(h:smN n l)(hn:n<=1000000):smL l:=⟨Je h.1 hn,fun t ht=>(h.2 t ht).sm⟩
def smN.mono(h:smN n l)(hn:n<=m):smN m l:=⟨Je h.1 hn,h.2⟩
def QX(n:Nat):smN n []:=⟨Jk _,fun t h=>by simp at h⟩
def Qgb(h:Qbw l=true):smN 64 l:=⟨Qeq h,fun t ht=>by
 obtain⟨i,hi,rfl⟩:=J2 ht
 have:=Qd9 (Qbp h hi)
 exact⟨by omega,by omega⟩⟩
def smN.set(h:smN n l)(i:Nat)(ht:t.ss):smN n (l.set i t):=
 ⟨by rw [Jo]; exact h.1,fun x hx=>by
  rcases List.mem_or_eq_of_mem_set hx with hx | rfl
  ·exact h.2 x hx
  ·exact ht⟩
def smN.rem(h:smN n l)(a:Int):smN n (Qki l a):=
 ⟨Je (QsD l a) h.1,fun x hx=>h.2 x ((JC.1 hx).1)⟩
def Qmc(a:Int):smN 65 (Qab l a).1:=by
 unfold Qab
 split
 ·exact QX _
 ·rename_i h1
  have hv:Qbw l=true:=by simpa using h1
  have hs:=Qgb hv
  split
  ·exact QX _
  split
  ·exact QX _
  split
  ·exact QX _
  refine⟨?_,fun x hx=>?_⟩
  ·have:=hs.1; unfold QCA; simp only[Jf,Jq,Jr,JV]; omega
  ·unfold QCA at hx
   rcases Ji.1 hx with h | h
   ·exact hs.2 x (JF h)
   rcases Ka.1 h with rfl | h
   ·exact⟨Jk _,Jk _⟩
   ·exact hs.2 x (JO h)
def Qve(h:(Qr l a).2=0):smN 64 l/\(Qr l a).1.l.length<=4096/\(Qr l a).1.s.length<=8:=by
 obtain⟨hv,i,hi,_,_,h3⟩:=QbJ h
 rw[h3]
 exact⟨Qgb hv,Qd9 (Qbp hv hi)⟩
def Qwc(a:Int):smN 65 (Qh3 l a).1:=by
 unfold Qh3
 split
 ·exact QX _
 rename_i h
 obtain⟨h1,h2,h3⟩:=Qve (l:=l) (a:=a) (by simpa using h)
 split
 ·exact QX _
 ·exact(h1.set _ ⟨by dsimp only; omega,by dsimp only; simp; omega⟩).mono (by omega)
def Qyj(a sv:Int):smN 65 (Qij l a sv).1:=by
 unfold Qij
 split
 ·exact QX _
 rename_i h
 obtain⟨h1,h2,h3⟩:=Qve (l:=l) (a:=a) (by simpa using h)
 have h4:∀ k,((Qr l a).1.s.take k).length<=100000:=fun k=>by rw[Jq]; omega
 split
 ·exact QX _
 split
 ·exact(h1.set _ ⟨by dsimp only; omega,h4 _⟩).mono (by omega)
 ·exact(h1.set _ ⟨by dsimp only; omega,h4 _⟩).mono (by omega)
def Qpr(h:t.ss):(QF t).ss:=by unfold QF; split<;>exact h
def QjU(e:E):smN 65 (QU l e).1:=by
 unfold QU
 split
 ·exact QX _
 rename_i h1
 have hv:Qbw l=true:=by simpa using h1
 have hs:=Qgb hv
 split
 ·exact QX _
 split
 ·exact hs.mono (by omega)
 split
 ·exact QX _
 rename_i h4
 rcases QB l e.tx with h | ⟨i,hi,h,hid⟩
 ·omega
 rw[h,Jj,Qd l i hi]
 have hlen:=Qd9 (Qbp hv hi)
 unfold Qlw
 split
 ·exact QX _
 split
 ·exact(hs.rem _).mono (by omega)
 ·refine (hs.set _ (Qpr ?_)).mono (by omega)
  unfold Qcj
  have hfl:(l[i].l.filter fun x=>decide (x≠e.ref)).length<=l[i].l.length:=JY _ _
  split
  ·exact⟨by dsimp only; simp; omega,by dsimp only; omega⟩
  split
  ·exact⟨by dsimp only; omega,by dsimp only; omega⟩
  ·exact⟨by dsimp only; omega,by simp⟩
attribute [go_sem] Tx.d
structure Kn where
 pg:Int
 nx:Int
 lg:Lg
 pl:Pl
 lk:Lk
 tx:List Tx
 ix:List Rw
 la:List Dt
@[go_sem] def Kn.d(k:Kn):List DV:=[.int .i64 k.pg,.int .i64 k.nx,.int .i64 k.lg.f,.pv (.sl (fz Q5 k.lg.es)),.int .i64 k.lg.d,.int .i64 k.pl.size,.pv (.sl (fz Qcv k.pl.fs)),.int .i64 k.pl.hand,.pv (.sl (fz Qaq k.lk.held)),.pv (.sl (fz Qaq k.lk.wait)),.pv (.sl (fz Qaf k.tx)),.pv (.sl (fz Qcc k.ix)),.pv (.sl (fz QcM k.la))]
def Kn0:Kn:=⟨0,0,Lg0,Pl0,Lk0,[],[],[]⟩
def Kn.sm(k:Kn):Prop:=k.lg.es.length<=4096/\k.pl.fs.length<=64/\k.lk.sum<=1024/\smN 65 k.tx/\k.ix.length<=64/\k.la.length<=10000
def QbW:Kn0.sm:=⟨by decide,by decide,by decide,QX _,by decide,by decide⟩
def VK(k:Kn):Prop:=(1<=k.pg/\k.pg<=64)/\(1<=k.nx/\k.nx<=1073741825)/\lgB k.lg=true/\plB k.pl=true/\Qbw k.tx=true/\ixB k.ix=true/\k.ix.length=k.pg
def boD(b:Bool):DV:=.bool b
attribute [go_sem] boD QEp lgD QCx QF6 QGa
def laC(l:List Dt)(n:Int)(i:Nat):Bool:=decide (0<=(l.getD i Dt0).pg)&&(decide ((l.getD i Dt0).pg<n)&&(decide (1<=(l.getD i Dt0).rc)&&(decide ((l.getD i Dt0).rc<=(l.getD i Dt0).last)&&(decide ((l.getD i Dt0).last<=1099511627776)&&(decide (i=0)||decide ((l.getD (i-1) Dt0).pg<(l.getD i Dt0).pg))))))
def Qnk(l:List Dt)(n:Int)(i:Nat):laC l n i=true ↔ 0<=(l.getD i Dt0).pg/\(l.getD i Dt0).pg<n/\1<=(l.getD i Dt0).rc/\(l.getD i Dt0).rc<=(l.getD i Dt0).last/\(l.getD i Dt0).last<=1099511627776/\(i=0\/(l.getD (i-1) Dt0).pg<(l.getD i Dt0).pg):=by
 unfold laC; simp
def laB(l:List Dt)(n:Int):Bool:=(Jw l.length).all (laC l n)
def Qk3(l:List Dt)(hl:l.length<=1000000)(n:Int):VCalls prog 158 [.pv (.sl (fz QcM l)),.int .i64 n] [] (QG boD fun b=>b=laB l n):=by
 refine dd Tryz.func158 ?_
 have kn:∀ i,i<l.length->laC l n i=false->laB l n=false:=fun i hi h=>Qax hi h
 (unfold Tryz.f158; refine rn trivial ?_)
 refine Qi (fun s:Okay l.length (laC l n)=>⟨58,0,[(5,.int .i64 s.i),(1,.int .i64 n),(0,.pv (.sl (fz QcM l)))],[]⟩) (fun s=>l.length-s.i) (Okay.start _ _) (gc []) ?_
 intro s
 have hi:=s.hi
 have hx:=Qnk l n s.i
 by_cases hc:s.i<l.length
 ·have hc':((s.i:Nat):Int) < l.length:=by omega
  have hg:=QeQ l s.i hc
  have hgp:=fun h:s.i-1<l.length=>QeQ l (s.i-1) h
  have kf:=kn s.i hc
  have nx:=fun h:laC l n s.i=true=>(⟨s.next hc h,s.dec hc⟩:∃ t:Okay l.length (laC l n),l.length-t.i<l.length-s.i)
  have F:=(Jd @hc' (Jd @hg @hgp))
  refine rn F ?_
  repeat' (first
   | with_reducible exact⟨⟩
   | (refine sG F ?_ ?_<;>intro hZ)
   | (refine sB F ?_ ?_<;>intro hZ)
   | (refine Qc (id:=5) [0,1,2,3,4,5,6,7,8,9,10,11,12,13,14,15,16,17,18,19,20,21,22,23,24,25,26,27,28,29,30,31,32,33,34,35,36,37,38,39,40] [] (by kernel_rfl) (by kernel_rfl) ?_; refine rn F ?_))
  all_goals first
   | exact⟨rfl,rfl,false,rfl,(kf (by rw[<- Bool.not_eq_true,hx]; omega)).symm⟩
   | exact⟨s.next hc (hx.2 (by omega)),s.dec hc,(gc [])⟩
   | skip
 ·have hc':¬ ((s.i:Nat):Int) < l.length:=by omega
  have F:=@hc'
  refine rn F ?_
  exact⟨rfl,rfl,true,rfl,(s.all hc).symm⟩
@[go_sem] def laD(a:Dt×Bool):DV:=.tup [.agg a.1.d,.bool a.2]
def QxM{α:Type}(l:List α)(p:α->Bool)(d:α)(i:Nat)(h:i<l.length)(hp:p (l.getD i d)=true)(hn:∀ j,j<i->p (l.getD j d)=false):l.find? p=some (l.getD i d):=by
 rw[List.find?_eq_some_iff_getElem]
 refine⟨hp,i,h,(Qd l i h d).symm,fun j hj=>?_⟩
 have:=hn j hj
 rw[Qd l j (by omega) d] at this
 simp[this]
def QBN{α:Type}(l:List α)(p:α->Bool)(d:α)(hn:∀ j,j<l.length->p (l.getD j d)=false):l.find? p=none:=by
 rw[J3]
 intro x hx
 obtain⟨j,hj,rfl⟩:=Jb.1 hx
 have:=hn j hj
 rw[Qd l j hj d] at this
 simp[this]
def QaH(l:List Dt)(n:Int):Dt×Bool:=match l.find? fun d=>decide (d.pg=n) with
 | some d=>(d,true)
 | none=>(Dt0,false)
def Qge(k:Kn)(hl:k.la.length<=1000000)(n:Int):VCalls prog 112 [.agg k.d,.int .i64 n] [] (QG laD fun a=>a=QaH k.la n):=by
 refine dd Tryz.func112 ?_
 (unfold Tryz.f112; refine rn trivial ?_)
 refine Qi (fun s:Okay k.la.length (fun j=>!decide ((k.la.getD j Dt0).pg=n))=>⟨28,0,[(6,.int .i64 s.i),(4,.ptr 1 0),(2,.ptr 0 0),(1,.int .i64 n)],[⟨41,true,k.d⟩,⟨171,true,[.int .i64 0,.int .i64 0,.int .i64 0]⟩]⟩) (fun s=>k.la.length-s.i) (Okay.start _ _) (gc [0,1]) ?_
 intro s
 have hi:=s.hi
 have hno:∀ j,j<s.i->decide ((k.la.getD j Dt0).pg=n)=false:=fun j hj=>by have:=s.ok j hj; simpa using this
 by_cases hc:s.i<k.la.length
 ·have hc':((s.i:Nat):Int) < k.la.length:=by omega
  have hg:=QeQ k.la s.i hc
  by_cases hp:(k.la.getD s.i Dt0).pg=n
  ·have hf:QaH k.la n = (k.la.getD s.i Dt0,true):=by unfold QaH; rw [QxM k.la _ Dt0 s.i hc (decide_eq_true hp) hno]
   have hnx:=s.next hc
   generalize k.la.getD s.i Dt0=d at *
   have F:=(Jd @hc' (Jd @hg @hp))
   (refine rn F ?_; try with_reducible exact⟨⟩)
   all_goals exact⟨rfl,rfl,(d,true),by simp[laD,Dt.d,hp],hf.symm⟩
  ·have hnx:=s.next hc (by rw [decide_eq_false hp]; rfl)
   have hs2:(s.next hc (by rw[decide_eq_false hp]; rfl)).i=s.i+1:=rfl
   have hd:=s.dec hc
   have F:=(Jd @hc' (Jd @hg @hp))
   (refine rn F ?_; try with_reducible exact⟨⟩)
   all_goals exact⟨s.next hc (by rw[decide_eq_false hp]; rfl),by first | exact s.dec hc | (rw[hs2]; omega),(gc [0,1])⟩
 ·have hc':¬ ((s.i:Nat):Int) < k.la.length:=by omega
  have hf:QaH k.la n=(Dt0,false):=by unfold QaH; rw[QBN k.la _ Dt0 fun j hj=>hno j (by omega)]
  have F:=@hc'
  (refine rn F ?_; try with_reducible exact⟨⟩)
  all_goals exact⟨rfl,rfl,(Dt0,false),rfl,hf.symm⟩
def VP(k:Kn):Prop:=VK k/\lkB k.lk=true/\laB k.la k.pg=true
def Qlh(k:Kn):Bool:=decide (1<=k.pg)&&(decide (k.pg<=64)&&(decide (1<=k.nx)&&(decide (k.nx<=1073741825)&&(lgB k.lg&&(plB k.pl&&(lkB k.lk&&(Qbw k.tx&&(ixB k.ix&&(decide ((k.ix.length:Int)=k.pg)&&laB k.la k.pg)))))))))
def Qtc(k:Kn):Qlh k=true ↔ VP k:=by
 unfold Qlh VP VK
 simp only[Jc,decide_eq_true_eq]
 constructor
 ·rintro⟨a,b,c,d,e,f,g,h,i,j,l⟩; exact⟨⟨⟨a,b⟩,⟨c,d⟩,e,f,h,i,j⟩,g,l⟩
 ·rintro⟨⟨⟨a,b⟩,⟨c,d⟩,e,f,h,i,j⟩,g,l⟩; exact⟨a,b,c,d,e,f,g,h,i,j,l⟩
def Qww(k:Kn)(h:k.sm):VCalls prog 111 [.agg k.d] [] (QG boD fun b=>b=Qlh k):=by
 refine dd Tryz.func111 ?_
 obtain⟨h1,h2,h3,h4,h5,h6⟩:=h
 have c1:=Qas k.lg (by omega)
 have c2:=Qak k.pl (by omega)
 have c3:=QiF k.lk (by omega)
 have c4:=QbM k.tx (h4.smL (by omega))
 have c5:=QbF k.ix (by omega)
 have c6:=fun n=>Qk3 k.la (by omega) n
 have e:Qlh k=(decide (1<=k.pg)&&(decide (k.pg<=64)&&(decide (1<=k.nx)&&(decide (k.nx<=1073741825)&&(lgB k.lg&&(plB k.pl&&(lkB k.lk&&(Qbw k.tx&&(ixB k.ix&&(decide ((k.ix.length:Int)=k.pg)&&laB k.la k.pg)))))))))):=rfl
 generalize Qlh k=R at *
 generalize lgB k.lg=b1 at *
 generalize plB k.pl=b2 at *
 generalize lkB k.lk=b3 at *
 generalize Qbw k.tx=b4 at *
 generalize ixB k.ix=b5 at *
 (unfold Tryz.f111; refine rn trivial ?_)
 refine rn F ?_
 repeat' (first
  | with_reducible exact⟨⟩
  | (refine sG F ?_ ?_<;>intro hZ)
  | refine vp F (c1) ?_
  | refine vp F (c2) ?_
  | refine vp F (c3) ?_
  | refine vp F (c4) ?_
  | refine vp F (c5) ?_
  | (refine Qo (c6 _) rfl ?_; rintro b6 hb6; refine rn F ?_))
 all_goals first
  | (refine⟨rfl,rfl,false,rfl,?_⟩; rw[e]; simp_all; done)
  | (refine⟨rfl,rfl,false,rfl,?_⟩; rw[e]; simp_all; omega)
  | (refine⟨rfl,rfl,_,rfl,?_⟩; rw[e]; simp_all; done)
  | (refine⟨rfl,rfl,_,rfl,?_⟩; rw[e]; simp_all; omega)
  | skip
def Qow(h:lgB ⟨f,es,d⟩=true)(hl:es.length<4096)(he:e.lsn=f+es.length)(ho:e.okB=true):lgB ⟨f,es++[e],d⟩=true:=by
 have hd:=Q9 h
 simp only[Lg.hd] at hd
 unfold lgB at h |-
 simp only[Jc,decide_eq_true_eq,Jp,Ju] at h |-
 refine⟨by simp only[Lg.hd,Jf,Jr,JA]; omega,fun i hi=>?_⟩
 simp only[Jf,Jr,JA] at hi
 rcases JZ i es.length with hlt | hge
 ·have:=h.2 i hlt
  unfold lgC at this |-
  dsimp only at this |-
  rw[Ja,JG hlt,<- Ja]
  exact this
 ·obtain rfl:i = es.length:=by omega
  unfold lgC
  dsimp only
  rw[Ja,Jv (JT _),J0]
  simp[he,ho]
def QnG(h:(Qeg x e).2.2=0):lgB x=true/\x.es.length<4096/\({ e with lsn:=x.end_+1 }:E).okB=true/\Qeg x e=(⟨x.f,x.es++[{ e with lsn:=x.end_+1 }],x.d⟩,x.end_+1,0):=by
 unfold Qeg at h |-
 split at h
 ·simp at h
 rename_i h1
 have hv:lgB x=true:=by simpa using h1
 split at h
 ·simp at h
 rename_i h2
 split at h
 ·simp at h
 rename_i h3
 have hd:=Q9 hv
 simp only[Lg.hd] at hd
 exact⟨hv,by omega,by simpa using h3,by rw[if_neg h1,if_neg h2,if_neg h3]⟩
def Qkd(h:(Qeg x e).2.2=0):lgB (Qeg x e).1=true:=by
 obtain⟨h1,h2,h3,h4⟩:=QnG h
 rw[h4]
 exact Qow (f:=x.f) (d:=x.d) h1 h2 (by dsimp only; unfold Lg.end_; omega) h3
def QoW(x:Lg)(e:E):(Qeg x e).1.es.length<=4096:=by
 by_cases h:(Qeg x e).2.2=0
 ·exact(Q9 (Qkd h)).2.2.1
 ·unfold Qeg at h |-
  split
  ·decide
  split
  ·decide
  split
  ·decide
  ·simp_all
def Qyl(h:(Qeg x e).2.2=0):Qbr (Qeg x e).1 (Qeg x e).2.1=({ e with lsn:=x.end_+1 },0):=by
 have hl:=Qkd h
 obtain⟨h1,h2,h3,h4⟩:=QnG h
 rw[h4] at hl |-
 unfold Qbr
 dsimp only at hl |-
 have hd:=Q9 h1
 simp only[Lg.hd] at hd
 rw[if_neg (by rw[hl]; decide),if_neg (by unfold Lg.end_; simp only[Jf,Jr,JA]; omega)]
 have:(x.end_+1-x.f).toNat=x.es.length:=by unfold Lg.end_; omega
 rw[this,Ja,Jv (JT _),J0]; rfl
def Qlv(l:List Rw)(e:E)(h:l.length<=64):(Qbq l e).1.length<=64:=by
 unfold Qbq
 split
 ·decide
 split
 ·decide
 split
 ·exact h
 split
 ·decide
 ·simpa using h
def Qtn(l:List Tx)(e:E):smN 65 (QU l e).1:=QjU e
def kT(k:Kn)(i:Nat):Bool:=decide ((k.tx.getD i Tx0).id<k.nx)
def kF(k:Kn)(i:Nat):Bool:=decide ((k.pl.fs.getD i Fm0).pg.id<k.pg)&&!(QaH k.la (k.pl.fs.getD i Fm0).pg.id).2
def kG(l:List Gr)(n:Int)(i:Nat):Bool:=decide ((l.getD i Gr0).pg<n)
def kB(k:Kn):Bool:=Qlh k&&((Jw k.tx.length).all (kT k)&&((Jw k.pl.fs.length).all (kF k)&&((Jw k.lk.held.length).all (kG k.lk.held k.pg)&&(Jw k.lk.wait.length).all (kG k.lk.wait k.pg))))
structure V2(k:Kn):Prop where
 ids:∀ i,i<k.tx.length->(k.tx.getD i Tx0).id<k.nx
 frs:∀ i,i<k.pl.fs.length->(k.pl.fs.getD i Fm0).pg.id<k.pg/\(QaH k.la (k.pl.fs.getD i Fm0).pg.id).2=false
def QDP(h:kB k=true):VP k:=by
 unfold kB at h; rw[Jc] at h; exact(Qtc k).1 h.1
def Qj0{k:Kn}(h:kB k=true):VK k:=(QDP h).1
def QtF(h:kB k=true):V2 k:=by
 unfold kB at h
 simp only[Jc,Jp,Ju] at h
 obtain⟨_,h1,h2,_⟩:=h
 refine⟨fun i hi=>by simpa [kT] using h1 i hi,fun i hi=>by simpa [kF] using h2 i hi⟩
def QbN(k:Kn)(h:k.sm):VCalls prog 87 [.agg k.d] [] (Ret (.bool (kB k))):=by
 refine dd Tryz.func87 ?_
 have c1:=Qww k h
 obtain⟨h1,h2,h3,h4,h5,h6⟩:=h
 have c2:=Qge k (by omega)
 unfold Lk.sum at h3
 have h40:=h4.1
 have k0:Qlh k=false->kB k=false:=fun h=>by unfold kB; rw[h]; rfl
 have k1:∀ i,i<k.tx.length->kT k i=false->kB k=false:=fun i hi h=>by unfold kB; rw[Qax hi h]; simp
 have k2:∀ i,i<k.pl.fs.length->kF k i=false->kB k=false:=fun i hi h=>by unfold kB; rw[Qax hi h]; simp
 have k3:∀ i,i<k.lk.held.length->kG k.lk.held k.pg i=false->kB k=false:=fun i hi h=>by unfold kB; rw[Qax hi h]; simp
 have k4:∀ i,i<k.lk.wait.length->kG k.lk.wait k.pg i=false->kB k=false:=fun i hi h=>by unfold kB; rw[Qax hi h]; simp
 have k5:Qlh k=true->(Jw k.tx.length).all (kT k)=true->(Jw k.pl.fs.length).all (kF k)=true->(Jw k.lk.held.length).all (kG k.lk.held k.pg)=true->(Jw k.lk.wait.length).all (kG k.lk.wait k.pg)=true->kB k=true:=fun a b c d e=>by unfold kB; rw[a,b,c,d,e]; rfl
 generalize kB k=R at *
 (unfold Tryz.f87; refine rn trivial ?_)
 refine Qo c1 rfl ?_
 rintro b hb
 cases b
 ·skip
  refine rn F ?_
  rw[k0 hb.symm]
 refine rn F ?_
 refine Qi (fun s:Okay k.tx.length (kT k)=>⟨94,0,[(3,.int .i64 s.i),(1,.ptr 0 0)],[⟨41,true,k.d⟩]⟩) (fun s=>k.tx.length-s.i) (Okay.start _ _) (gc [0]) ?_
 intro s
 have hi:=s.hi
 by_cases hc:s.i<k.tx.length
 ·have hc':((s.i:Nat):Int) < k.tx.length:=by omega
  have hg:=Qea k.tx s.i hc
  have kn:=k1 s.i hc
  have F:=(Jd @hc' @hg)
  refine rn F ?_
  repeat' (first
   | with_reducible exact⟨⟩
   | (refine sB F ?_ ?_<;>intro hZ)
   | (refine Qc (id:=6) [0,1,2,3,4,5,6,7,8] [] (by kernel_rfl) (by kernel_rfl) ?_; refine rn F ?_))
  all_goals first
   | (rw[kn (by unfold kT; exact decide_eq_false (by omega))])
   | exact⟨s.next hc (decide_eq_true (by omega)),s.dec hc,(gc [0])⟩
 have hc':¬ ((s.i:Nat):Int)<k.tx.length:=by omega
 have k6:=k5 hb.symm (s.all hc)
 have F:=@hc'
 refine rn F ?_
 refine Qi (fun s:Okay k.pl.fs.length (kF k)=>⟨94,0,[(4,.int .i64 s.i),(1,.ptr 0 0)],[⟨41,true,k.d⟩]⟩) (fun s=>k.pl.fs.length-s.i) (Okay.start _ _) (gc [0]) ?_
 intro r
 have hr:=r.hi
 by_cases hcr:r.i<k.pl.fs.length
 ·have hcr':((r.i:Nat):Int) < k.pl.fs.length:=by omega
  have hf:=Qb0 k.pl.fs r.i hcr
  have kn:=k2 r.i hcr
  have ef:kF k r.i=(decide ((k.pl.fs.getD r.i Fm0).pg.id<k.pg)&&!(QaH k.la (k.pl.fs.getD r.i Fm0).pg.id).2):=rfl
  have F:=(Jd @hcr' @hf)
  refine rn F ?_
  repeat' (first
   | with_reducible exact⟨⟩
   | (refine sB F ?_ ?_<;>intro hZ))
  all_goals first
   | (rw[kn (by rw[ef,decide_eq_false (by omega)]; rfl)])
   | skip
  refine Qo (c2 _) rfl ?_
  rintro⟨a,b2⟩ hb2
  have hl2:(QaH k.la (k.pl.fs.getD r.i Fm0).pg.id).2=b2:=by rw[<- hb2]
  cases b2
  ·skip
   have F:=trivial
   refine rn F ?_
   exact⟨r.next hcr (by rw[ef,decide_eq_true (by omega),hl2]; rfl),r.dec hcr,(gc [0])⟩
  ·skip
   have F:=trivial
   refine rn F ?_
   rw[kn (by rw[ef,hl2]; simp)]
 have hcr':¬ ((r.i:Nat):Int)<k.pl.fs.length:=by omega
 have k7:=k6 (r.all hcr)
 have F:=@hcr'
 refine rn F ?_
 refine Qi (fun s:Okay k.lk.held.length (kG k.lk.held k.pg)=>⟨94,0,[(8,.int .i64 s.i),(1,.ptr 0 0)],[⟨41,true,k.d⟩]⟩) (fun s=>k.lk.held.length-s.i) (Okay.start _ _) (gc [0]) ?_
 intro u
 have hu:=u.hi
 by_cases hcu:u.i<k.lk.held.length
 ·have hcu':((u.i:Nat):Int) < k.lk.held.length:=by omega
  have hx:=QaC k.lk.held u.i hcu
  have kn:=k3 u.i hcu
  have F:=(Jd @hcu' @hx)
  refine rn F ?_
  repeat' (first
   | with_reducible exact⟨⟩
   | (refine sB F ?_ ?_<;>intro hZ)
   | (refine Qc (id:=20) [0,1,2,3,4,5,6,7,8,9,10] [] (by kernel_rfl) (by kernel_rfl) ?_; refine rn F ?_))
  all_goals first
   | (rw[kn (by unfold kG; exact decide_eq_false (by omega))])
   | exact⟨u.next hcu (decide_eq_true (by omega)),u.dec hcu,(gc [0])⟩
 have hcu':¬ ((u.i:Nat):Int)<k.lk.held.length:=by omega
 have k8:=k7 (u.all hcu)
 have F:=@hcu'
 refine rn F ?_
 refine Qi (fun s:Okay k.lk.wait.length (kG k.lk.wait k.pg)=>⟨94,0,[(9,.int .i64 s.i),(1,.ptr 0 0)],[⟨41,true,k.d⟩]⟩) (fun s=>k.lk.wait.length-s.i) (Okay.start _ _) (gc [0]) ?_
 intro w
 have hw:=w.hi
 by_cases hcw:w.i<k.lk.wait.length
 ·have hcw':((w.i:Nat):Int) < k.lk.wait.length:=by omega
  have hx:=QaC k.lk.wait w.i hcw
  have kn:=k4 w.i hcw
  have F:=(Jd @hcw' @hx)
  refine rn F ?_
  repeat' (first
   | with_reducible exact⟨⟩
   | (refine sB F ?_ ?_<;>intro hZ)
   | (refine Qc (id:=25) [0,1,2,3,4,5,6,7,8,9,10] [] (by kernel_rfl) (by kernel_rfl) ?_; refine rn F ?_))
  all_goals first
   | (rw[kn (by unfold kG; exact decide_eq_false (by omega))])
   | exact⟨w.next hcw (decide_eq_true (by omega)),w.dec hcw,(gc [0])⟩
 have hcw':¬ ((w.i:Nat):Int)<k.lk.wait.length:=by omega
 have F:=@hcw'
 refine rn F ?_
 rw[k8 (w.all hcw)]
def QaW(k:Kn)(h:k.sm):VCalls prog 87 [.agg k.d] [] (QG boD fun b=>b=true->VK k):=
 (QbN k h).toS (kB k) rfl Qj0
@[go_sem] def inD(n:Int):DV:=.int .i64 n
def Qxz(k:Kn)(n:Int):Int:=if 0<=idF k.pl.fs n then (k.pl.fs.getD (idF k.pl.fs n).toNat Fm0).pg.lsn else if (QaH k.la n).2=true then (QaH k.la n).1.last else (k.ix.getD n.toNat Rw0).lsn
def Qfo(k:Kn)(n:Int):Int:=if kB k=true/\0<=n/\n<k.pg then Qxz k n else 0
def QmZ(k:Kn)(h:k.sm)(n:Int):VCalls prog 115 [.agg k.d,.int .i64 n] [] (QG inD fun a=>a=Qfo k n):=by
 refine dd Tryz.func115 ?_
 have c1:=QbN k h
 have hvk:=@Qj0 k
 have e0:∀ h:¬ (kB k=true/\0<=n/\n<k.pg),Qfo k n=0:=fun h=>if_neg h
 have e1:∀ h:kB k=true/\0<=n/\n<k.pg,Qfo k n=Qxz k n:=fun h=>if_pos h
 generalize Qfo k n=R at *
 generalize kB k=v at *
 obtain⟨h1,h2,h3,h4,h5,h6⟩:=h
 have c2:=Qge k (by omega) n
 have c3:=QgX k.pl (by omega) n
 (unfold Tryz.f115; refine rn trivial ?_)
 cases v
 ·skip
  refine rn F ?_
  repeat' (first
   | with_reducible exact⟨⟩
   | refine vp F (c1) ?_)
  all_goals exact⟨rfl,rfl,_,rfl,(e0 (by simp)).symm⟩
 obtain⟨v1,v2,v3,v4,v5,v6,v7⟩:=hvk rfl
 by_cases hn:0<=n/\n<k.pg
 rotate_left
 ·skip
  refine rn F ?_
  repeat' (first
   | with_reducible exact⟨⟩
   | (refine sG F ?_ ?_<;>intro hZ)
   | refine vp F (c1) ?_)
  all_goals first
   | exact⟨rfl,rfl,_,rfl,(e0 (fun h=>hn h.2)).symm⟩
   | (exfalso; omega)
 have hR:=e1 ⟨rfl,hn⟩
 unfold Qxz at hR
 have hg:=QlT k.ix n.toNat (by omega)
 have hfs:Qbn k.pl n=idF k.pl.fs n:=by unfold Qbn; rw[if_pos v4]
 unfold QeP at c3
 rw[hfs] at c3
 by_cases hi:0<=idF k.pl.fs n
 ·rw [if_neg (by omega)] at c3
  rw[if_pos hi] at hR
  refine rn F ?_
  repeat' (first
   | with_reducible exact⟨⟩
   | refine vp F (c1) ?_
   | refine vp F (c3) ?_)
  all_goals first
   | exact⟨rfl,rfl,_,rfl,hR.symm⟩
   | (exfalso; omega)
 rw[if_pos (by omega)] at c3
 rw[if_neg hi] at hR
 have F:=@hg
 refine rn F ?_
 repeat' (first
  | with_reducible exact⟨⟩
  | (refine sB F ?_ ?_<;>intro hZ)
  | refine vp F (c1) ?_
  | refine vp F (c3) ?_
  | (refine Qo (c2) rfl ?_; rintro⟨a,b2⟩ hl; refine rn F ?_))
 all_goals first
  | (exfalso; omega)
  | (rw[<- hl,if_pos (by first | assumption | simp_all)] at hR; exact⟨rfl,rfl,_,rfl,hR.symm⟩)
  | (rw[<- hl,if_neg (by first | assumption | simp_all)] at hR; exact⟨rfl,rfl,_,rfl,hR.symm⟩)
  | skip
def Qew(k:Kn)(h:k.sm)(n:Int):VCalls prog 99 [.agg k.d,.int .i64 n] [] (QG (fun d:Int=>.agg (Kn.d ⟨k.pg,k.nx,⟨k.lg.f,k.lg.es,d⟩,k.pl,k.lk,k.tx,k.ix,k.la⟩)) fun d=>lgB k.lg=true->lgB ⟨k.lg.f,k.lg.es,d⟩=true):=by
 refine dd Tryz.func99 ?_
 obtain⟨h1,h2,h3,h4,h5,h6⟩:=h
 have c1:=Qgf k.lg (by omega)
 have c2:=QjF k.lg (by omega)
 have e:∀ n,(Q4 k.lg n).2=0->(Q4 k.lg n).1=⟨k.lg.f,k.lg.es,(Q4 k.lg n).1.d⟩/\lgB (Q4 k.lg n).1=true:=fun n h=>by
  unfold Q4 at h |-
  split at h
  ·simp at h
  rename_i q1
  split at h
  ·simp at h
  rename_i q2
  rw[if_neg q1,if_neg q2]
  refine⟨rfl,?_⟩
  have hv:lgB k.lg=true:=by simpa using q1
  have hd:=Q9 hv
  unfold lgB at hv |-
  simp only[Jc,decide_eq_true_eq] at hv |-
  refine⟨?_,hv.2⟩
  simp only[Lg.hd,Lg.end_] at hd q2 |-
  split<;>omega
 (unfold Tryz.f99; refine rn trivial ?_)
 refine rn F ?_
 repeat' (first
  | with_reducible exact⟨⟩
  | (refine sB F ?_ ?_<;>intro hZ)
  | refine vp F (c1) ?_
  | refine vp F (c2 _) ?_
  | (refine Qc (id:=1) [0,1,2,3,4] [⟨[11],[],5,[0,1,2,3],[6]⟩,⟨[11],[],7,[0,2,3,4],[8,9,10]⟩,⟨[11],[11],12,[10],[]⟩,⟨[],[],13,[],[]⟩] (by kernel_rfl) (by kernel_rfl) ?_; refine rn F ?_))
 ·obtain ⟨e1,e2⟩:=e _ (by assumption)
  generalize Q4 k.lg _=r at *
  obtain⟨⟨f',es',d'⟩,er⟩:=r
  simp only[Lg.mk.injEq] at e1
  obtain⟨rfl,rfl,_⟩:=e1
  exact⟨rfl,rfl,d',rfl,fun _=>e2⟩
 ·exact⟨rfl,rfl,k.lg.d,rfl,fun h=>h⟩
@[go_sem] def kie(a:Kn×Int×Int):DV:=.tup [.agg a.1.d,.int .i64 a.2.1,.int .i64 a.2.2]
def Qzc(k:Kn)(a:Kn×Int×Int):Prop:=a.1.sm/\(a.2.2=0->kB k=true/\(Qab k.tx k.nx).2=0/\a.1=⟨k.pg,k.nx+1,k.lg,k.pl,k.lk,(Qab k.tx k.nx).1,k.ix,k.la⟩)
def Qsv(k:Kn)(h:k.sm):VCalls prog 79 [.agg k.d] [] (QG kie (Qzc k)):=by
 refine dk Tryz.func79 ?_
 have c1:=QbN k h
 have h':=h
 obtain⟨h1,h2,h3,h4,h5,h6⟩:=h
 have c2:=Qoh k.tx (h4.smL (by omega)) k.nx
 have hsm:=Qmc (l:=k.tx) k.nx
 have e0:∀ er n,er≠0->Qzc k (Kn0,n,er):=fun er n h=>⟨QbW,fun h2=>absurd h2 h⟩
 (unfold Tryz.f79; refine rn trivial ?_)
 cases hv:kB k
 ·rw [hv] at c1
  refine rn F ?_
  repeat' (first
   | with_reducible exact⟨⟩
   | refine vp F (c1) ?_)
  all_goals exact⟨rfl,rfl,(Kn0,0,15),rfl,e0 _ _ (by decide)⟩
 rw[hv] at c1
 obtain⟨v1,v2,v3,v4,v5,v6,v7⟩:=Qj0 hv
 refine rn F ?_
 repeat' (first
  | with_reducible exact⟨⟩
  | (refine sB F ?_ ?_<;>intro hZ)
  | refine vp F (c1) ?_
  | refine vp F (c2) ?_
  | (refine Qc (id:=10) [0,1,2,3] [⟨[],[],4,[1,2,3],[]⟩,⟨[],[],5,[],[]⟩,⟨[],[],6,[],[]⟩] (by kernel_rfl) (by kernel_rfl) ?_; refine rn F ?_))
 all_goals first
  | exact⟨rfl,rfl,(Kn0,0,21),rfl,e0 _ _ (by decide)⟩
  | exact⟨rfl,rfl,(Kn0,0,(Qab k.tx k.nx).2),rfl,e0 _ _ (by assumption)⟩
  | exact⟨rfl,rfl,(⟨k.pg,k.nx+1,k.lg,k.pl,k.lk,(Qab k.tx k.nx).1,k.ix,k.la⟩,k.nx+1-1,0),rfl,⟨h1,h2,h3,hsm,h5,h6⟩,fun _=>⟨hv,by omega,rfl⟩⟩
  | skip
def Kn.add(k:Kn)(e:E):Kn:=⟨k.pg,k.nx,⟨k.lg.f,k.lg.es++[e],k.lg.d⟩,k.pl,k.lk,(QU k.tx e).1,(Qbq k.ix e).1,k.la⟩
def QEx(e e':E):Prop:=e'.kind=e.kind/\e'.tx=e.tx/\e'.ref=e.ref/\e'.c=e.c/\e'.blob=e.blob
def AddOk(k:Kn)(e e':E):Prop:=kB k=true/\QEx e e'/\e'.okB=true/\e'.lsn=k.lg.end_+1/\k.lg.es.length<4096/\(QU k.tx e').2=0/\(Qbq k.ix e').2=0/\(e.tx=0->e'.ptx=0)/\(0<e.tx->∃ i,i<k.tx.length/\idT k.tx e.tx=i/\e'.ptx=(k.tx.getD i Tx0).n)/\((e.kind=1\/e.kind=2)->e'.ppg=Qfo k e.c.pg)/\(¬ (e.kind=1\/e.kind=2)->e'.ppg=0)
def Qvq(k:Kn)(e:E)(a:Kn×Int×Int):Prop:=a.1.sm/\(a.2.2=0->∃ e',AddOk k e e'/\a.1=k.add e'/\a.2.1=e'.lsn/\lgB a.1.lg=true)
def QCh(k:Kn)(e:E)(n er:Int)(h:er≠0):Qvq k e (Kn0,n,er):=⟨QbW,fun h2=>absurd h2 h⟩
def Qkf(hs:k.sm)(hv:kB k=true)(h:(Qeg k.lg e1).2.2=0)(hn:(QU k.tx (Qbr (Qeg k.lg e1).1 (Qeg k.lg e1).2.1).1).2=0)(hr:(Qbq k.ix (Qbr (Qeg k.lg e1).1 (Qeg k.lg e1).2.1).1).2=0)(hse:QEx e e1)(h0:e.tx=0->e1.ptx=0)(hi:0<e.tx->∃ i,i<k.tx.length/\idT k.tx e.tx=i/\e1.ptx=(k.tx.getD i Tx0).n)(hp1:(e.kind=1\/e.kind=2)->e1.ppg=Qfo k e.c.pg)(hp2:¬ (e.kind=1\/e.kind=2)->e1.ppg=0):
 Qvq k e (⟨k.pg,k.nx,(Qeg k.lg e1).1,k.pl,k.lk,(QU k.tx (Qbr (Qeg k.lg e1).1 (Qeg k.lg e1).2.1).1).1,(Qbq k.ix (Qbr (Qeg k.lg e1).1 (Qeg k.lg e1).2.1).1).1,k.la⟩,(Qeg k.lg e1).2.1,0):=by
 have hg:=Qyl h
 have hl:=Qkd h
 obtain⟨q1,q2,q3,q4⟩:=QnG h
 have hlen:=QoW k.lg e1
 obtain⟨s1,s2,s3,s4,s5,s6⟩:=hs
 rw[hg] at hn hr |-
 rw[q4] at hl hlen |-
 exact⟨⟨hlen,s2,s3,Qtn _ _,Qlv _ _ s5,s6⟩,fun _=>⟨{ e1 with lsn:=k.lg.end_+1 },⟨hv,hse,q3,rfl,q2,hn,hr,h0,hi,hp1,hp2⟩,rfl,rfl,hl⟩⟩
def Qd5 (k:Kn) (h:k.sm) (e:E):VCalls prog 107 [.agg k.d,.agg e.d] [] (QG kie (Qvq k e)):=by
 refine dk Tryz.func107 ?_
 have c1:=QbN k h
 have ch:=QmZ k h e.c.pg
 have h':=h
 obtain⟨h1,h2,h3,h4,h5,h6⟩:=h
 have c2:=Qb3 k.tx (Je h4.1 (by decide)) e.tx
 have hq:=QCh k e
 obtain⟨lsn,kind,tx,ptx,ppg,ref,c,blob⟩:=e
 dsimp only at c2 ch
 have c3:=fun p=>QbG ⟨lsn,kind,tx,p,0,ref,c,blob⟩
 have c4:=fun e=>QsS k.lg (by omega) e
 have c5:=fun e=>QiH (Qeg k.lg e).1 (by have:=QoW k.lg e; omega) (Qeg k.lg e).2.1
 have c6:=fun e=>QmX k.tx (h4.smL (by omega)) e
 have c7:=fun e=>Qk6 k.ix (by omega) e
 dsimp only at c3
 obtain⟨ch0,hch0⟩:∃ b:Bool,(kind==1||kind==2)=b:=⟨_,rfl⟩
 rw[hch0] at c3
 have hk1:ch0=true->(kind=1\/kind=2):=fun h=>by rw[h] at hch0; simpa using hch0
 have hk2:ch0=false->¬ (kind=1\/kind=2):=fun h=>by rw[h] at hch0; simpa using hch0
 clear hch0
 (unfold Tryz.f107; refine rn trivial ?_)
 cases hv:kB k
 ·rw [hv] at c1
  refine rn F ?_
  repeat' (first
   | with_reducible exact⟨⟩
   | refine vp F (c1) ?_)
  all_goals exact⟨rfl,rfl,(Kn0,0,15),rfl,hq _ _ (by decide)⟩
 rw[hv] at c1
 by_cases ht:0<tx
 ·rcases QB k.tx tx with hi | ⟨i,hi,hid,_⟩
  ·rw [hi] at c2
   have F:=@ht
   refine rn F ?_
   repeat' (first
    | with_reducible exact⟨⟩
    | refine vp F (c1) ?_
    | refine vp F (c2) ?_)
   all_goals exact⟨rfl,rfl,(Kn0,0,16),rfl,hq _ _ (by decide)⟩
  ·rw [hid] at c2
   have hg:=Qea k.tx i hi
   cases ch0
   ·skip
    have F:=(Jd @ht @hg)
    refine rn F ?_
    repeat' (first
     | with_reducible exact⟨⟩
     | (refine sB F ?_ ?_<;>intro hZ)
     | refine vp F (c1) ?_
     | refine vp F (c2) ?_
     | refine vp F (c3 _) ?_
     | refine vp F (c4 ⟨_,_,_,_,_,_,⟨_,_,⟨_,_⟩,⟨_,_⟩⟩,_⟩) ?_
     | refine vp F (c5 _) ?_
     | refine vp F (c6 _) ?_
     | refine vp F (c7 _) ?_
     | (refine Qc (id:=21) [0,1,2,3] [⟨[],[],4,[1,2],[5]⟩,⟨[],[],6,[2],[7]⟩,⟨[],[],8,[],[]⟩] (by kernel_rfl) (by kernel_rfl) ?_; refine rn F ?_))
    all_goals first
     | exact⟨rfl,rfl,(Kn0,0,_),rfl,hq _ _ (by assumption)⟩
     | (have q:=Qkf (e:=⟨lsn,kind,tx,ptx,ppg,ref,c,blob⟩) (e1:=⟨lsn,kind,tx,(k.tx.getD i Tx0).n,0,ref,c,blob⟩) h' hv (by omega) (by omega) (by omega) ⟨rfl,rfl,rfl,rfl,rfl⟩ (fun h=>by dsimp only at h; omega) (fun _=>⟨i,hi,hid,rfl⟩) (fun h=>absurd h (hk2 rfl)) (fun _=>rfl)
        exact⟨rfl,rfl,_,rfl,q⟩)
     | skip
   ·skip
    have F:=(Jd @ht @hg)
    refine rn F ?_
    repeat' (first
     | with_reducible exact⟨⟩
     | (refine sB F ?_ ?_<;>intro hZ)
     | refine vp F (c1) ?_
     | refine vp F (c2) ?_
     | refine vp F (c3 _) ?_
     | (refine Qo (ch) rfl ?_; rintro hd hhd; refine rn F ?_)
     | refine vp F (c4 ⟨_,_,_,_,_,_,⟨_,_,⟨_,_⟩,⟨_,_⟩⟩,_⟩) ?_
     | refine vp F (c5 _) ?_
     | refine vp F (c6 _) ?_
     | refine vp F (c7 _) ?_
     | (refine Qc (id:=21) [0,1,2,3] [⟨[],[],4,[1,2],[5]⟩,⟨[],[],6,[2],[7]⟩,⟨[],[],8,[],[]⟩] (by kernel_rfl) (by kernel_rfl) ?_; refine rn F ?_))
    all_goals first
     | exact⟨rfl,rfl,(Kn0,0,_),rfl,hq _ _ (by assumption)⟩
     | (have q:=Qkf (e:=⟨lsn,kind,tx,ptx,ppg,ref,c,blob⟩) (e1:=⟨lsn,kind,tx,(k.tx.getD i Tx0).n,hd,ref,c,blob⟩) h' hv (by omega) (by omega) (by omega) ⟨rfl,rfl,rfl,rfl,rfl⟩ (fun h=>by dsimp only at h; omega) (fun _=>⟨i,hi,hid,rfl⟩) (fun _=>hhd) (fun h=>absurd (hk1 rfl) h)
        exact⟨rfl,rfl,_,rfl,q⟩)
     | skip
 ·cases ch0
  ·skip
   have F:=@ht
   refine rn F ?_
   repeat' (first
    | with_reducible exact⟨⟩
    | (refine sB F ?_ ?_<;>intro hZ)
    | refine vp F (c1) ?_
    | refine vp F (c3 _) ?_
    | refine vp F (c4 ⟨_,_,_,_,_,_,⟨_,_,⟨_,_⟩,⟨_,_⟩⟩,_⟩) ?_
    | refine vp F (c5 _) ?_
    | refine vp F (c6 _) ?_
    | refine vp F (c7 _) ?_
    | (refine Qc (id:=21) [0,1,2,3] [⟨[],[],4,[1,2],[5]⟩,⟨[],[],6,[2],[7]⟩,⟨[],[],8,[],[]⟩] (by kernel_rfl) (by kernel_rfl) ?_; refine rn F ?_))
   all_goals first
    | exact⟨rfl,rfl,(Kn0,0,_),rfl,hq _ _ (by assumption)⟩
    | (have q:=Qkf (e:=⟨lsn,kind,tx,ptx,ppg,ref,c,blob⟩) (e1:=⟨lsn,kind,tx,0,0,ref,c,blob⟩) h' hv (by omega) (by omega) (by omega) ⟨rfl,rfl,rfl,rfl,rfl⟩ (fun _=>rfl) (fun h=>absurd h ht) (fun h=>absurd h (hk2 rfl)) (fun _=>rfl)
       exact⟨rfl,rfl,_,rfl,q⟩)
    | skip
  ·skip
   have F:=@ht
   refine rn F ?_
   repeat' (first
    | with_reducible exact⟨⟩
    | (refine sB F ?_ ?_<;>intro hZ)
    | refine vp F (c1) ?_
    | refine vp F (c3 _) ?_
    | (refine Qo (ch) rfl ?_; rintro hd hhd; refine rn F ?_)
    | refine vp F (c4 ⟨_,_,_,_,_,_,⟨_,_,⟨_,_⟩,⟨_,_⟩⟩,_⟩) ?_
    | refine vp F (c5 _) ?_
    | refine vp F (c6 _) ?_
    | refine vp F (c7 _) ?_
    | (refine Qc (id:=21) [0,1,2,3] [⟨[],[],4,[1,2],[5]⟩,⟨[],[],6,[2],[7]⟩,⟨[],[],8,[],[]⟩] (by kernel_rfl) (by kernel_rfl) ?_; refine rn F ?_))
   all_goals first
    | exact⟨rfl,rfl,(Kn0,0,_),rfl,hq _ _ (by assumption)⟩
    | (have q:=Qkf (e:=⟨lsn,kind,tx,ptx,ppg,ref,c,blob⟩) (e1:=⟨lsn,kind,tx,0,hd,ref,c,blob⟩) h' hv (by omega) (by omega) (by omega) ⟨rfl,rfl,rfl,rfl,rfl⟩ (fun _=>rfl) (fun h=>absurd h ht) (fun _=>hhd) (fun h=>absurd (hk1 rfl) h)
       exact⟨rfl,rfl,_,rfl,q⟩)
    | skip
structure Cp where
 pg:Int
 nx:Int
 tx:List Tx
 dl:List Dt
 ix:List Rw
def Qkj(s:List UInt8)(l:List Int):List UInt8:=l.foldl (fun s n=>Qk s n 8) s
def QeV(s:List UInt8)(t:Tx):List UInt8:=Qkj (Qk (Qkj (Qk (Qk (Qk (Qk (Qk s t.id 4) t.st 1) t.n 8) t.b 8) t.l.length 2) t.l) t.s.length 1) t.s
def QeU(s:List UInt8)(l:List Tx):List UInt8:=l.foldl QeV s
def QaT(l:List Tx):List UInt8:=QeU (Qk [] l.length 2) l
def Qj6(s:List UInt8)(r:Rw):List UInt8:=Qk (Qk (Qk s r.lsn 8) r.im 8) r.at_ 8
def Qee(s:List UInt8)(l:List Rw):List UInt8:=l.foldl Qj6 s
def Qcr(l:List Rw):List UInt8:=Qee (Qk [] l.length 2) l
def Qj7(s:List UInt8)(d:Dt):List UInt8:=Qk (Qk (Qk s d.pg 1) d.rc 8) d.last 8
def Qdc(s:List UInt8)(l:List Dt):List UInt8:=l.foldl Qj7 s
def QFI(c:Cp):List UInt8:=Qk (Qk (Qk (Qk [] c.pg 2) c.nx 4) (QaT c.tx).length 4++QaT c.tx) c.dl.length 1
def QaI(c:Cp):List UInt8:=Qdc (QFI c) c.dl++Qcr c.ix
def CkV(c:Cp):Prop:=(1<=c.pg/\c.pg<=64)/\(1<=c.nx/\c.nx<=1073741825)/\Qbw c.tx=true/\laB c.dl c.pg=true/\ixB c.ix=true/\(c.ix.length:Int)=c.pg
structure CkOf(k:Kn)(c:Cp):Prop where
 pg:c.pg=k.pg
 nx:c.nx=k.nx
 tx:c.tx=k.tx
 ix:c.ix=k.ix
 dl:∀ d∈c.dl,(∃ e∈k.la,e.pg=d.pg/\e.last=d.last)\/∃ f∈k.pl.fs,f.dirty=true/\f.pg.id=d.pg/\f.pg.lsn=d.last
 la:∀ e∈k.la,∃ d∈c.dl,d.pg=e.pg
 fs:∀ f∈k.pl.fs,f.dirty=true->∃ d∈c.dl,d.pg=f.pg.id
def CkP(k:Kn)(s:List UInt8):Prop:=s=[]\/∃ c,CkOf k c/\CkV c/\s=QaI c
def Qa7(l:List Tx)(a:Int):Tx:=l.getD (idT l a).toNat Tx0
def Qi8(k:Kn)(t:Tx)(y:E):Prop:=∃ i,i<t.l.length/\(Qbr k.lg (t.l.getD i 0)).2=0/\y=(Qbr k.lg (t.l.getD i 0)).1/\∀ j,i<j->j<t.l.length->(Qbr k.lg (t.l.getD j 0)).2=0->¬ ((Qbr k.lg (t.l.getD j 0)).1.c.pg=y.c.pg/\(Qbr k.lg (t.l.getD j 0)).1.c.sl=y.c.sl)
def QEC(k:Kn)(e:E):Prop:=0<=idT k.tx e.tx/\((e.kind=3\/e.kind=4)->(Qa7 k.tx e.tx).st≠3)/\(e.kind=5->(Qa7 k.tx e.tx).st=3/\(Qa7 k.tx e.tx).l=[])
def Qd3(p:Pl)(e:E):Pg:=⟨((QeP p e.c.pg).1.setc e.c.sl.toNat e.c.a).id,e.lsn,((QeP p e.c.pg).1.setc e.c.sl.toNat e.c.a).cel⟩
def QFZ(k:Kn)(e:E):Prop:=0<=idT k.tx e.tx/\(e.kind=1->(Qa7 k.tx e.tx).st=1)/\(e.kind=2->(Qa7 k.tx e.tx).st≠1/\∃ y,Qi8 k (Qa7 k.tx e.tx) y/\e.ref=y.lsn/\e.c=⟨y.c.pg,y.c.sl,y.c.a,y.c.b⟩)/\(QeP k.pl e.c.pg).2=true/\(QeP k.pl e.c.pg).1.cel e.c.sl.toNat=e.c.b
def Kn.set(k:Kn)(e:E):Kn:=⟨k.pg,k.nx,(k.add e).lg,(Qkh k.pl (Qd3 k.pl e)).1,k.lk,(k.add e).tx,(k.add e).ix,k.la⟩
def Kn.wrt(k:Kn)(e:E):Kn:=⟨k.pg,k.nx,(k.add e).lg,(QaR k.pl e.c.pg e.ref).1,k.lk,(k.add e).tx,(k.add e).ix,k.la⟩
def QGm(k:Kn)(e:E):Prop:=∃ i:Nat,i<k.pl.fs.length/\idF k.pl.fs e.c.pg=i/\(k.pl.fs.getD i Fm0).pg.lsn=e.ref/\(QaR k.pl e.c.pg e.ref).2=0/\(k.pl.fs.getD i Fm0).dirty=true
inductive Stp:Nat->Kn->Kn->Prop
 | begin {k:Kn}:kB k=true->(Qab k.tx k.nx).2=0->Stp 1 k ⟨k.pg,k.nx+1,k.lg,k.pl,k.lk,(Qab k.tx k.nx).1,k.ix,k.la⟩
 | fin {k:Kn} {e e':E}:AddOk k e e'->(e.kind=3\/e.kind=4\/e.kind=5)->QEC k e->Stp 0 k (k.add e')
 | ckpt {k:Kn} {e e':E}:AddOk k e e'->e.kind=6->CkP k e.blob->Stp 1 k (k.add e')
 | change {k:Kn} {e e':E}:AddOk k e e'->e.kind=1->QFZ k e->(Qkh k.pl (Qd3 k.pl e')).2=0->Stp 1 k (k.set e')
 | undo {k:Kn} {e e':E}:AddOk k e e'->e.kind=2->QFZ k e->(Qkh k.pl (Qd3 k.pl e')).2=0->Stp 0 k (k.set e')
 | wrt {k:Kn} {e e':E}:AddOk k e e'->e.kind=7->QGm k e->Stp 0 k (k.wrt e')
 | lock {k:Kn} (u:Lk):Stp 0 k ⟨k.pg,k.nx,k.lg,k.pl,u,k.tx,k.ix,k.la⟩
 | save {k:Kn} (a:Int):(Qh3 k.tx a).2=0->Stp 0 k ⟨k.pg,k.nx,k.lg,k.pl,k.lk,(Qh3 k.tx a).1,k.ix,k.la⟩
 | back {k:Kn} (a b:Int):(Qij k.tx a b).2=0->Stp 0 k ⟨k.pg,k.nx,k.lg,k.pl,k.lk,(Qij k.tx a b).1,k.ix,k.la⟩
 | rem {k:Kn} (a:Int):0<=idT k.tx a->(Qa7 k.tx a).n=0->Stp 0 k ⟨k.pg,k.nx,k.lg,k.pl,k.lk,Qki k.tx a,k.ix,k.la⟩
 | pool {k:Kn} (p:Pl):SameF k.pl.fs p.fs->Stp 0 k ⟨k.pg,k.nx,k.lg,p,k.lk,k.tx,k.ix,k.la⟩
 | drop {k:Kn} (a:Int):(QdR k.pl a).2=0->Stp 0 k ⟨k.pg,k.nx,k.lg,(QdR k.pl a).1,k.lk,k.tx,k.ix,k.la⟩
 | put {k:Kn} (x:Pg):kB k=true->0<=x.id/\x.id<k.pg->x.lsn=Qfo k x.id->(Qom k.pl x).2=0->(QaH k.la x.id).2=false->Stp 0 k ⟨k.pg,k.nx,k.lg,⟨k.pl.size,k.pl.fs++[⟨x,false,0,true⟩],k.pl.hand⟩,k.lk,k.tx,k.ix,k.la⟩
 | putl {k:Kn} (x:Pg):kB k=true->0<=x.id/\x.id<k.pg->x.lsn=Qfo k x.id->(Qom k.pl x).2=0->(QaH k.la x.id).2=true->Stp 0 k ⟨k.pg,k.nx,k.lg,⟨k.pl.size,k.pl.fs++[⟨x,true,(QaH k.la x.id).1.rc,true⟩],k.pl.hand⟩,k.lk,k.tx,k.ix,k.la.filter fun d=>decide (d.pg≠x.id)⟩
 | force {k:Kn} (d:Int):(lgB k.lg=true->lgB ⟨k.lg.f,k.lg.es,d⟩=true)->Stp 0 k ⟨k.pg,k.nx,⟨k.lg.f,k.lg.es,d⟩,k.pl,k.lk,k.tx,k.ix,k.la⟩
inductive Str:Nat->Kn->Kn->Prop
 | refl {n:Nat} (k:Kn):Str n k k
 | step {n m:Nat} {k k1 k2:Kn}:Str n k k1->Stp m k1 k2->Str (n+m) k k2
def Str.one(h:Stp m k k'):Str m k k':=by
 have:=Str.step (Str.refl (n:=0) k) h
 rwa [Kb] at this
def Str.mono (h:Str n k k') (hm:n<=m):Str m k k':=by
 induction h generalizing m with
 | refl k=>exact .refl k
 | @step n p k k1 k2 h1 h2 ih =>
   have:=ih (m:=m-p) (by omega)
   have:=Str.step this h2
   rwa [Nat.sub_add_cancel (by omega)] at this
def Str.trans(h:Str n a b)(g:Str m b c):Str (n+m) a c:=by
 induction g with
 | refl k=>exact h.mono (by omega)
 | step h1 h2 ih=>rw[<- Nat.add_assoc]; exact(ih h).step h2
def Str.tr0(h:Str 0 a b)(g:Str n b c):Str n a c:=by have:=h.trans g; rwa [Kb] at this
def Str.tr(h:Str n a b)(g:Str 0 b c):Str n a c:=h.trans g
structure Ev(x y:Lg):Prop where
 f:y.f=x.f
 pre:x.es <+: y.es
 ok:lgB x=true->lgB y=true
def Ev.refl(x:Lg):Ev x x:=⟨rfl,J6,fun h=>h⟩
def Ev.trans(a:Ev x y)(b:Ev y z):Ev x z:=⟨b.f.trans a.f,a.pre.trans b.pre,fun h=>b.ok (a.ok h)⟩
def Ev.len(a:Ev x y):x.es.length<=y.es.length:=a.pre.length_le
def AddOk.lgB{k:Kn}{e e':E}(h:AddOk k e e'):lgB (k.add e').lg=true:=by
 obtain⟨v,s,ho,hl,hn,_⟩:=h
 have hv:=(Qj0 v).2.2.1
 exact Qow (f:=k.lg.f) (d:=k.lg.d) hv hn (by rw[hl]; unfold Lg.end_; omega) ho
def AddOk.ev(h:AddOk k e e'):Ev k.lg (k.add e').lg:=⟨rfl,List.prefix_append _ _,fun _=>h.lgB⟩
def Stp.ev(h:Stp n k k'):Ev k.lg k'.lg:=by
 cases h with
 | fin h _ _=>exact h.ev
 | ckpt h _ _=>exact h.ev
 | change h _ _ _=>exact h.ev
 | undo h _ _ _=>exact h.ev
 | wrt h _ _=>exact h.ev
 | force d h=>exact⟨rfl,J6,h⟩
 | _=>exact Ev.refl _
def Str.ev(h:Str n k k'):Ev k.lg k'.lg:=by
 induction h with
 | refl k=>exact Ev.refl _
 | step _ h2 ih=>exact ih.trans h2.ev
structure Rs where
 st:Int
 tx:Int
 pg:Int
 cell:Ce
 er:Int
@[go_sem] def Rs.d(r:Rs):List DV:=[.int .i64 r.st,.int .i64 r.tx,.int .i64 r.pg,.bool r.cell.set,.pv (.str r.cell.data),.int .i64 r.er]
def QaA(e:Int):Rs:=⟨5,0,0,Ce0,e⟩
@[go_sem] def krD(a:Kn×Rs):DV:=.tup [.agg a.1.d,.agg a.2.d]
def Qvd(hq:Qvq k e (k1,n1,e1))(h:e1=0):Ev k.lg k1.lg/\lgB k1.lg=true/\k1.lg.es.length=k.lg.es.length+1/\k1.pg=k.pg/\k1.pl=k.pl/\k1.lk=k.lk/\k1.la=k.la:=by
 obtain⟨e',ha,hk,_,hl⟩:=hq.2 h
 dsimp only at hk hl
 subst hk
 exact⟨ha.ev,hl,by simp[Kn.add],rfl,rfl,rfl,rfl⟩
def Qgv(hq:Qvq k e (k1,n1,e1))(h:e1=0)(hk:e.kind=3\/e.kind=4\/e.kind=5)(hf:QEC k e):Str 0 k k1:=by
 obtain⟨e',ha,hk1,_,hl⟩:=hq.2 h
 dsimp only at hk1
 subst hk1
 exact .one (.fin ha hk hf)
def Qd1{a:Int}{i:Nat}(h:idT l a=i):Qa7 l a=l.getD i Tx0:=by unfold Qa7; rw[h]; rfl
def Qae(e:Int):VCalls prog 73 [.int .i64 e] [] (Ret (.agg (QaA e).d)):=by
 refine dd Tryz.func73 ?_
 (unfold Tryz.f73; refine rn trivial ?_)
 rfl
def QpF(k:Kn)(h:k.sm)(tx pg sl:Int)(hi:0<=idT k.tx tx):VCalls prog 218 [.agg k.d,.int .i64 tx,.agg [.int .i64 pg,.int .i64 sl]] [] (QG boD fun _=>True):=by
 refine dd Tryz.func218 ?_
 obtain⟨h1,h2,h3,h4,h5,h6⟩:=h
 have c2:=Qb3 k.tx (Je h4.1 (by decide)) tx
 have c5:=fun n=>QiH k.lg (by omega) n
 rcases QB k.tx tx with hn | ⟨i,hil,hid,_⟩
 ·omega
 rw[hid] at c2
 have hg:=Qea k.tx i hil
 have ht:(k.tx.getD i Tx0).l.length<=100000:=by rw[Qd _ _ hil]; exact(h4.2 _ (Jg hil)).1
 (unfold Tryz.f218; refine rn trivial ?_)
 have F:=@hg
 refine rn F ?_
 repeat' (first
  | with_reducible exact⟨⟩
  | refine vp F (c2) ?_
  | (refine Qc (id:=1) [0,1,2,3,4] [⟨[8],[],5,[0,1,2],[6,7]⟩,⟨[8],[8],9,[],[]⟩] (by kernel_rfl) (by kernel_rfl) ?_; refine rn F ?_))
 generalize k.tx.getD i Tx0=t at *
 refine Qi (fun s:To t.l.length=>⟨55,0,[(8,.int .i64 s.i),(7,.ptr 2 0),(5,.ptr 1 0),(3,.ptr 0 0)],[⟨41,true,k.d⟩,⟨180,true,[.int .i64 pg,.int .i64 sl]⟩,⟨201,true,t.d⟩]⟩) (fun s=>t.l.length-s.i) ⟨0,Jk _⟩ (gc [0,1,2]) ?_
 rintro⟨j,hj⟩
 dsimp only
 have hx:=fun h:j<t.l.length=>QY t.l j h
 have F:=@hx
 refine rn F ?_
 repeat' (first
  | with_reducible exact⟨⟩
  | (refine sG F ?_ ?_<;>intro hZ)
  | (refine sB F ?_ ?_<;>intro hZ)
  | refine vp F (c5 _) ?_
  | (refine Qc (id:=5) [0,1,2,3,4,5,6] [⟨[11],[],7,[0,2,3,4,5],[8,9,10]⟩,⟨[11],[11],12,[10],[]⟩,⟨[],[],13,[],[]⟩] (by kernel_rfl) (by kernel_rfl) ?_; refine rn F ?_))
 all_goals first
  | exact⟨rfl,rfl,true,rfl,trivial⟩
  | exact⟨rfl,rfl,false,rfl,trivial⟩
  | exact⟨⟨j+1,by omega⟩,by dsimp only; omega,(gc [0,1,2])⟩
  | skip
def QB0(k:Kn)(a:Kn×Rs):Prop:=a.1.sm/\(a.2.st=1\/a.2.st=5)/\(a.2.st≠5->Str 0 k a.1)
def QsN(k:Kn)(h:k.sm)(tx:Int)(hi:0<=idT k.tx tx)(hst:(Qa7 k.tx tx).st≠3):VCalls prog 173 [.agg k.d,.int .i64 tx] [] (QG krD (QB0 k)):=by
 refine dk Tryz.func173 ?_
 have h':=h
 obtain⟨h1,h2,h3,h4,h5,h6⟩:=h
 have c2:=Qb3 k.tx (Je h4.1 (by decide)) tx
 have c3:=QgW k.tx (Je h4.1 (by decide)) tx
 have c4:=Qd5 k h' ⟨0,3,tx,0,0,0,Ch0,[]⟩
 rcases QB k.tx tx with hn | ⟨i,hil,hid,_⟩
 ·omega
 rw[hid] at c2
 have hg:=Qea k.tx i hil
 (unfold Tryz.f173; refine rn trivial ?_)
 have F:=@hg
 refine rn F ?_
 repeat' (first
  | with_reducible exact⟨⟩
  | (refine sB F ?_ ?_<;>intro hZ)
  | refine vp F (c2) ?_
  | refine vp F (c3) ?_
  | (refine Qo (c4) rfl ?_; rintro⟨k1,n1,e1⟩ hq; refine rn F ?_)
  | refine vp F (Qae _) ?_
  | (refine Qo (Qew k1 hq.1 _) rfl ?_; rintro d hd; refine rn F ?_)
  | (refine Qo (Qdu k.lk (by omega) tx) rfl ?_; rintro u hu; refine rn F ?_)
  | (refine Qo (Qdu k1.lk (Je hq.1.2.2.1 (by decide)) tx) rfl ?_; rintro u hu; refine rn F ?_)
  | (refine Qc (id:=2) [0,1,2,3,4] [⟨[],[],5,[0,1,2],[6,7,8,9]⟩] (by kernel_rfl) (by kernel_rfl) ?_; refine rn F ?_)
  | (refine Qc (id:=6) [0,1] [⟨[],[],2,[0],[]⟩,⟨[],[],3,[1],[]⟩,⟨[],[],4,[],[]⟩] (by kernel_rfl) (by kernel_rfl) ?_; refine rn F ?_))
 ·exact⟨rfl,rfl,(⟨k.pg,k.nx,k.lg,k.pl,u,Qki k.tx tx,k.ix,k.la⟩,⟨1,0,0,Ce0,0⟩),rfl,⟨h1,h2,Je hu h3,h4.rem _,h5,h6⟩,.inl rfl,fun _=>(Str.one (.rem tx hi (by rw[Qd1 hid]; omega))).step (.lock u)⟩
 ·exact⟨rfl,rfl,(k,QaA e1),rfl,h',.inr rfl,fun h=>absurd rfl h⟩
 ·have q:=Qgv hq (by omega) (.inl rfl) ⟨hi,fun _=>hst,fun h=>by simp at h⟩
  obtain⟨r1,r2,r3,r4,r5,r6⟩:=hq.1
  exact⟨rfl,rfl,(⟨k1.pg,k1.nx,⟨k1.lg.f,k1.lg.es,d⟩,k1.pl,u,k1.tx,k1.ix,k1.la⟩,⟨1,0,0,Ce0,0⟩),rfl,⟨r1,r2,Je hu r3,r4,r5,r6⟩,.inl rfl,fun _=>(q.step (.force d hd)).step (.lock u)⟩
def Qj2:0<=idT l a ↔ a∈l.map (·.id):=by
 unfold idT Qmn
 constructor
 ·intro h
  split at h
  ·rename_i hx
   obtain⟨t,ht,he⟩:=JW.1 hx
   exact J4.2 ⟨t,ht,by simpa using he⟩
  ·omega
 ·intro h
  obtain⟨t,ht,he⟩:=J4.1 h
  rw[if_pos (JW.2 ⟨t,ht,by simpa using he⟩)]
  omega
def QiA(t:Tx):(QF t).id=t.id:=by unfold QF; split<;>rfl
def Qxa(t:Tx)(e:E):(Qcj t e).id=t.id:=by unfold Qcj; split; rfl; split<;>rfl
def Qlu(h:(QU l e).2=0)(hk:e.kind≠3/\e.kind≠5):(QU l e).1.map (·.id)=l.map (·.id):=by
 unfold QU at h |-
 split at h
 ·simp at h
 rename_i q1
 split at h
 ·simp at h
 rename_i q2
 split at h
 ·rename_i q3; rw[if_neg q1,if_neg q2,if_pos q3]
 rename_i q3
 split at h
 ·simp at h
 rename_i q4
 rw[if_neg q1,if_neg q2,if_neg q3,if_neg q4]
 rcases QB l e.tx with hn | ⟨i,hi,hid,_⟩
 ·omega
 rw[hid,Jj] at h |-
 unfold Qlw at h |-
 split at h
 ·simp at h
 rename_i q5
 split at h
 ·rename_i q6; omega
 rename_i q6
 rw[if_neg q5,if_neg q6]
 dsimp only
 rw[Kc,QiA,Qxa,Qd l i hi]
 have:l[i].id=(l.map (·.id))[i]'(by simpa using hi):=by rw[Js]
 rw[this,List.set_getElem_self]
def QpO(h:(QU l e).2=0)(hk:e.kind≠3/\e.kind≠5)(ha:0<=idT l a):0<=idT (QU l e).1 a:=by
 rw[Qj2] at ha |-; rw[Qlu h hk]; exact ha
def QiN(h:(QU l e).2=0)(ht:e.tx=0):(QU l e).1=l:=by
 unfold QU at h |-
 split at h
 ·simp at h
 rename_i q1
 split at h
 ·simp at h
 rename_i q2
 rw[if_neg q1,if_neg q2,if_pos ht]
def Qmj(hq:Qvq k e (k1,n1,e1))(h:e1=0)(hk:e.kind≠3/\e.kind≠5)(ha:0<=idT k.tx a):0<=idT k1.tx a:=by
 obtain⟨e',⟨v,s,_,_,_,hn,_⟩,hk1,_,_⟩:=hq.2 h
 dsimp only at hk1
 subst hk1
 exact QpO hn (by rw[s.1]; exact hk) ha
def Qvc(hq:Qvq k e (k1,n1,e1))(h:e1=0)(ht:e.tx=0):k1.tx=k.tx:=by
 obtain⟨e',⟨v,s,_,_,_,hn,_⟩,hk1,_,_⟩:=hq.2 h
 dsimp only at hk1
 subst hk1
 exact QiN hn (by rw[s.2.1]; exact ht)
def QDN(k:Kn)(st:Int)(a:Kn×Rs):Prop:=a.1.sm/\(a.2.st=st\/a.2.st=5)/\(a.2.st≠5->Str 0 k a.1)
def Qn8(k:Kn)(h:k.sm)(tx st:Int)(hi:0<=idT k.tx tx)(hst:(Qa7 k.tx tx).st≠3):VCalls prog 174 [.agg k.d,.int .i64 tx,.int .i64 st] [] (QG krD (QDN k st)):=by
 refine dk Tryz.func174 ?_
 have h':=h
 obtain⟨h1,h2,h3,h4,h5,h6⟩:=h
 have c1:=QsQ k.lk (by omega) tx
 have c2:=Qb3 k.tx (Je h4.1 (by decide)) tx
 have c3:=QgW k.tx (Je h4.1 (by decide)) tx
 have c4:=fun(u:Lk) (hu:u.sum<=k.lk.sum)=>Qd5 ⟨k.pg,k.nx,k.lg,k.pl,u,k.tx,k.ix,k.la⟩ ⟨h1,h2,Je hu h3,h4,h5,h6⟩ ⟨0,4,tx,0,0,0,Ch0,[]⟩
 rcases QB k.tx tx with hn | ⟨i,hil,hid,_⟩
 ·omega
 rw[hid] at c2
 have hg:=Qea k.tx i hil
 (unfold Tryz.f174; refine rn trivial ?_)
 have F:=@hg
 refine rn F ?_
 repeat' (first
  | with_reducible exact⟨⟩
  | (refine sB F ?_ ?_<;>intro hZ)
  | (refine Qo (c1) rfl ?_; rintro u hu; refine rn F ?_)
  | refine vp F (c2) ?_
  | refine vp F (c3) ?_
  | (refine Qo (c4 u hu) rfl ?_; rintro⟨k1,n1,e1⟩ hq; refine rn F ?_)
  | refine vp F (Qae _) ?_
  | (refine Qo (Qdu u (Je hu (Je h3 (by decide))) tx) rfl ?_; rintro u2 hu2; refine rn F ?_)
  | (refine Qc (id:=3) [0,1,2,3,4] [⟨[],[],5,[0,1,2],[6,7,8,9]⟩] (by kernel_rfl) (by kernel_rfl) ?_; refine rn F ?_)
  | (refine Qc (id:=9) [0,1] [⟨[],[],2,[0],[]⟩,⟨[],[],3,[1],[]⟩,⟨[],[],4,[],[]⟩] (by kernel_rfl) (by kernel_rfl) ?_; refine rn F ?_))
 ·exact⟨rfl,rfl,(⟨k.pg,k.nx,k.lg,k.pl,u2,Qki k.tx tx,k.ix,k.la⟩,⟨st,0,0,Ce0,0⟩),rfl,⟨h1,h2,Je hu2 (Je hu h3),h4.rem _,h5,h6⟩,.inl rfl,fun _=>(Str.one (.rem tx hi (by rw[Qd1 hid]; omega))).step (.lock u2)⟩
 ·exact⟨rfl,rfl,(k,QaA e1),rfl,h',.inr rfl,fun h=>absurd rfl h⟩
 have he1:e1=0:=by omega
 obtain⟨q1,q2,q3,q4,q5,q6,q7⟩:=Qvd hq he1
 have qs:=Qgv hq he1 (.inr (.inl rfl)) ⟨hi,fun _=>hst,fun h=>by simp at h⟩
 have hst:=Qmj hq he1 ⟨by simp,by simp⟩ hi
 obtain⟨r1,r2,r3,r4,r5,r6⟩:=hq.1
 dsimp only at q1 qs hst r1 r2 r3 r4 r5 r6
 have hkl:k1.lk.held.length<=1024:=by unfold Lk.sum at r3; omega
 refine Qi (fun s:{s:Nat×Lk // s.1<=k1.lk.held.length/\s.2.sum<=1024}=>⟨95,0,[(12,.int .i64 s.1.1),(11,.pv (.sl (fz Qaq k1.lk.held))),(8,.ptr 2 0),(7,.ptr 1 0),(6,.ptr 0 0),(2,.int .i64 st),(1,.int .i64 tx)],[⟨41,true,[.int .i64 0,.int .i64 0,.int .i64 0,.pv (.slc []),.int .i64 0,.int .i64 0,.pv (.slc []),.int .i64 0,.pv (.slc []),.pv (.slc []),.pv (.slc []),.pv (.slc []),.pv (.slc [])]⟩,⟨118,true,[.int .i64 0,.int .i64 0,.int .i64 0,.bool false,.pv (.str []),.int .i64 0]⟩,⟨41,true,Kn.d ⟨k1.pg,k1.nx,k1.lg,k1.pl,s.1.2,k1.tx,k1.ix,k1.la⟩⟩]⟩) (fun s=>k1.lk.held.length-s.1.1) ⟨(0,k1.lk),Jk _,r3⟩ (gc [1,2,3]) ?_
 rintro⟨⟨j,u3⟩,hj,hu3⟩
 dsimp only at hj hu3 |-
 have hx:=fun h:j<k1.lk.held.length=>QaC k1.lk.held j h
 have d1:=QpF ⟨k1.pg,k1.nx,k1.lg,k1.pl,u3,k1.tx,k1.ix,k1.la⟩ ⟨r1,r2,hu3,r4,r5,r6⟩ tx
 have d2:=QsI u3 (by omega) tx
 have F:=@hx
 refine rn F ?_
 repeat' (first
  | with_reducible exact⟨⟩
  | (refine sG F ?_ ?_<;>intro hZ)
  | (refine sB F ?_ ?_<;>intro hZ)
  | (refine Qo (d1 _ _ hst) rfl ?_; rintro b -; refine rn F ?_)
  | (refine Qo (d2 _ _) rfl ?_; rintro u4 hu4; refine rn F ?_)
  | (refine Qc (id:=14) [0,1,2,3,4,5,6,7,8,9,10,11,12,13,14] [⟨[],[],15,[0,1,2,3,4,5,6,10,11,12,13],[16,17]⟩] (by kernel_rfl) (by kernel_rfl) ?_; refine rn F ?_)
  | (refine Qc (id:=15) [0,1,2,3,4,5,6,7] [⟨[],[],8,[0,3,4,5,6],[9]⟩,⟨[],[],10,[],[]⟩] (by kernel_rfl) (by kernel_rfl) ?_; refine rn F ?_))
 all_goals first
  | exact⟨⟨(j+1,u3),by dsimp only; omega,hu3⟩,by dsimp only; omega,(gc [0,1,2])⟩
  | exact⟨⟨(j+1,u4),by dsimp only; omega,Je hu4 hu3⟩,by dsimp only; omega,(gc [0,1,2])⟩
  | exact⟨rfl,rfl,(⟨k1.pg,k1.nx,k1.lg,k1.pl,u3,k1.tx,k1.ix,k1.la⟩,⟨st,0,0,Ce0,0⟩),rfl,⟨r1,r2,hu3,r4,r5,r6⟩,.inl rfl,fun _=>((Str.one (.lock u)).trans qs).step (.lock u3)⟩
  | skip
section
attribute [local go_sem] Qba
def Qj9(x:Pg)(i:Nat)(h:i<16)(c:Ce):x.d.take (2+i*2)++[.pv (.lit (.bool c.set)),.pv (.str c.data)]++x.d.drop (2+i*2+2)=(x.setc i c).d:=QB4 x i h c
def Qw7{e:E}(h:e.okB=true)(hk:e.kind=1\/e.kind=2):0<=e.c.sl/\e.c.sl<16:=by
 unfold E.okB at h
 simp only[Jc] at h
 have h2:=h.2
 unfold E.kindB Ch.okB at h2
 rcases hk with hk | hk<;>rw[hk] at h2<;>simp at h2<;>omega
def Qvb(hq:Qvq k e (k1,n1,e1))(h:e1=0)(hk:e.kind=1\/e.kind=2):0<=e.c.sl/\e.c.sl<16:=by
 obtain⟨e',⟨v,s,ho,_⟩,_⟩:=hq.2 h
 have:=Qw7 ho (by rw[s.1]; exact hk)
 rw[s.2.2.2.1] at this
 exact this
def QvS(p:Pl)(x:Pg)(h:p.fs.length<=64):(Qkh p x).1.fs.length<=64:=by
 unfold Qkh
 repeat' split
 all_goals first | exact Jk _ | simpa using h
@[go_sem] def kiD(a:Kn×Int):DV:=.tup [.agg a.1.d,.int .i64 a.2]
def QGI(k:Kn)(e:E)(a:Kn×Int):Prop:=a.1.sm/\(a.2=0->∃ e',AddOk k e e'/\(Qkh k.pl (Qd3 k.pl e')).2=0/\a.1=k.set e')/\(a.2≠0->a.1=k)
def QyE(k:Kn)(h:k.sm)(e:E)(hk:e.kind=1\/e.kind=2):VCalls prog 168 [.agg k.d,.agg e.d] [] (QG kiD (QGI k e)):=by
 refine dk Tryz.func168 ?_
 have h':=h
 obtain⟨h1,h2,h3,h4,h5,h6⟩:=h
 have c1:=Qd5 k h' e
 have c2:=QgX k.pl (by omega) e.c.pg
 have c3:=fun x=>QAo k.pl (by omega) x
 have hul:=fun x=>QvS k.pl x h2
 (unfold Tryz.f168; refine rn trivial ?_)
 refine Qo c1 rfl ?_
 rintro⟨k1,n1,e1⟩ hq
 by_cases he1:e1=0
 ·subst he1
  obtain⟨s1,s2⟩:=Qvb hq rfl hk
  obtain⟨i,hi⟩:∃ i:Nat,e.c.sl=i:=⟨e.c.sl.toNat,by omega⟩
  have hce:=fun x=>Qj9 x i (by omega) e.c.a
  have hi16:i<16:=by omega
  obtain⟨r1,r2,r3,r4,r5,r6⟩:=hq.1
  obtain⟨e',ha,hk1,hn1,hl1⟩:=hq.2 rfl
  dsimp only at hk1 hn1
  have hsp:Qd3 k.pl e'=⟨((QeP k.pl e.c.pg).1.setc i e.c.a).id,n1,((QeP k.pl e.c.pg).1.setc i e.c.a).cel⟩:=by
   unfold Qd3; rw[ha.2.1.2.2.2.1,hi,Jj,<- hn1]
  have hS:∀ w,Qkh k.pl ⟨((QeP k.pl e.c.pg).1.setc i e.c.a).id,n1,((QeP k.pl e.c.pg).1.setc i e.c.a).cel⟩=w->w.2=0->(Qkh k.pl (Qd3 k.pl e')).2=0/\(⟨k1.pg,k1.nx,k1.lg,w.1,k1.lk,k1.tx,k1.ix,k1.la⟩:Kn)=k.set e':=by
   rintro w rfl h0
   rw[<- hsp] at h0 |-
   subst hk1
   exact⟨h0,rfl⟩
  dsimp only at r1 r2 r3 r4 r5 r6
  have hw:=hul ⟨((QeP k.pl e.c.pg).1.setc i e.c.a).id,n1,((QeP k.pl e.c.pg).1.setc i e.c.a).cel⟩
  have F:=(Jd @hi @hce)
  refine rn F ?_
  repeat' (first
   | with_reducible exact⟨⟩
   | (refine sB F ?_ ?_<;>intro hZ)
   | refine vp F (c2) ?_
   | refine vp F (c3 _) ?_)
  all_goals generalize hww:Qkh k.pl ⟨((QeP k.pl e.c.pg).1.setc i e.c.a).id,n1,((QeP k.pl e.c.pg).1.setc i e.c.a).cel⟩=w at *
  ·exact⟨rfl,rfl,(k,w.2),rfl,h',fun h=>absurd h (by assumption),fun _=>rfl⟩
  ·exact⟨rfl,rfl,(⟨k1.pg,k1.nx,k1.lg,w.1,k1.lk,k1.tx,k1.ix,k1.la⟩,0),rfl,⟨r1,hw,r3,r4,r5,r6⟩,fun _=>⟨e',ha,hS w rfl (by omega)⟩,fun h=>absurd rfl h⟩
 ·skip
  have F:=@he1
  refine rn F ?_
  exact⟨rfl,rfl,(k,e1),rfl,h',fun h=>absurd h he1,fun _=>rfl⟩
structure Ac where
 kind:Int
 pg:Int
 sl:Int
 data:List UInt8
@[go_sem] def Ac.d(a:Ac):List DV:=[.int .i64 a.kind,.int .i64 a.pg,.int .i64 a.sl,.pv (.str a.data)]
def QvR(p:Pl)(a:Int)(h:p.fs.length<=64):(QzS p a).fs.length<=64:=by
 unfold QzS
 split
 ·exact h
 ·simpa using h
def QrE(p:Pl)(a:Int):SameF p.fs (QzS p a).fs:=by
 unfold QzS
 split
 ·exact SameF.refl _
 ·exact SameF.set _ _ _
def QtW(hp:plB p=true)(h:(QeP p a).2=false):idF p.fs a<0:=by
 unfold QeP Qbn at h
 rw[hp] at h
 simp only[if_true] at h
 split at h
 ·assumption
 ·simp at h
def QHb(k:Kn)(a:Ac)(r:Kn×Rs):Prop:=r.1.sm/\(r.2.st=3->r.1=k/\r.2.pg=a.pg/\idF k.pl.fs a.pg<0)/\(r.2.st=1\/r.2.st=3\/r.2.st=5)/\(r.2.st=1->Str 1 k r.1)
def QsU(k:Kn)(h:k.sm)(hv:VK k)(tx:Int)(hid:0<=idT k.tx tx)(hst:(Qa7 k.tx tx).st=1)(a:Ac)(ha:0<=a.sl/\a.sl<16):VCalls prog 179 [.agg k.d,.int .i64 tx,.agg a.d] [] (QG krD (QHb k a)):=by
 refine dk Tryz.func179 ?_
 have h':=h
 obtain⟨h1,h2,h3,h4,h5,h6⟩:=h
 have c1:=QgX k.pl (by omega) a.pg
 have c2:=QAn k.pl (by omega) a.pg
 have hn:=QtW (a:=a.pg) hv.2.2.2.1
 have hul:=QvR k.pl a.pg h2
 have c3:=fun c=>QyE k h' ⟨0,1,tx,0,0,0,c,[]⟩ (.inl rfl)
 obtain⟨i,hi⟩:∃ i:Nat,a.sl=i:=⟨a.sl.toNat,by omega⟩
 have hi16:i<16:=by omega
 have hus:=QrE k.pl a.pg
 generalize hgg:QeP k.pl a.pg=g at *
 have hce:=QoU g.1 i hi16
 generalize QzS k.pl a.pg=up at *
 (unfold Tryz.f179; refine rn trivial ?_)
 have F:=(Jd @hi @hce)
 refine rn F ?_
 repeat' (first
  | with_reducible exact⟨⟩
  | (refine sB F ?_ ?_<;>intro hZ)
  | refine vp F (c1) ?_
  | refine vp F (c2) ?_
  | (refine Qo (c3 ⟨_,_,⟨_,_⟩,⟨_,_⟩⟩) rfl ?_; rintro⟨k1,e1⟩ hq; refine rn F ?_)
  | refine vp F (Qae _) ?_
  | (refine Qc (id:=3) [0,1,2,3] [⟨[],[],4,[1,2,3],[]⟩,⟨[],[],5,[],[]⟩] (by kernel_rfl) (by kernel_rfl) ?_; refine rn F ?_)
  | (refine Qc (id:=6) [0,1,2,3,4,5,6] [⟨[],[],7,[1,2,3,4,5,6],[]⟩,⟨[],[],8,[],[]⟩] (by kernel_rfl) (by kernel_rfl) ?_; refine rn F ?_)
  | (refine Qc (id:=7) [0,1,2,3,4,5,6,7,8,9] [⟨[10],[10],11,[],[]⟩] (by kernel_rfl) (by kernel_rfl) ?_; refine rn F ?_)
  | (refine Qc (id:=12) [0,1] [⟨[],[],2,[0],[]⟩,⟨[],[],3,[1],[]⟩,⟨[],[],4,[],[]⟩] (by kernel_rfl) (by kernel_rfl) ?_; refine rn F ?_))
 all_goals first
  | exact⟨rfl,rfl,(k,⟨3,0,a.pg,Ce0,0⟩),rfl,h',fun _=>⟨rfl,rfl,hn (by first | assumption | simp_all)⟩,.inr (.inl rfl),fun h=>by simp at h⟩
  | exact⟨rfl,rfl,(⟨k.pg,k.nx,k.lg,up,k.lk,k.tx,k.ix,k.la⟩,⟨1,0,0,g.1.cel i,0⟩),rfl,⟨h1,hul,h3,h4,h5,h6⟩,fun h=>by simp at h,.inl rfl,fun _=>(Str.one (.pool up hus)).mono (by omega)⟩
  | exact⟨rfl,rfl,(k,QaA e1),rfl,h',fun h=>by simp[QaA] at h,.inr (.inr rfl),fun h=>by simp[QaA] at h⟩
  | skip
 all_goals
  obtain⟨e',q1,q2,q3⟩:=hq.2.1 (by dsimp only; omega)
  dsimp only at q3
  exact⟨rfl,rfl,(k1,⟨1,0,0,Ce0,0⟩),rfl,hq.1,fun h=>by simp at h,.inl rfl,fun _=>by
   dsimp only
   rw[q3]
   exact .one (.change q1 rfl ⟨hid,fun _=>hst,fun h=>by simp at h,by dsimp only; rw[hgg]; first | assumption | simp_all,by dsimp only; rw[hgg]; rfl⟩ q2)⟩
end
def QEt(a b c a' b' c':Int)(d d':List UInt8):QI [.pv (.lit (.int .i64 a)),.pv (.lit (.int .i64 b)),.pv (.lit (.int .i64 c)),.pv (.str d)] [.pv (.lit (.int .i64 a')),.pv (.lit (.int .i64 b')),.pv (.lit (.int .i64 c')),.pv (.str d')] [(0,1),(1,1),(2,1),(3,2)]=some (decide (a=a')&&decide (b=b')&&decide (c=c')&&decide (d=d')):=by simp[QI,Q7,Bool.beq_eq_decide_eq,Bool.and_assoc]
def QGl(k:Kn)(a:Ac)(e:Int):Prop:=e=0->(1<=a.kind/\a.kind<=7)/\(a.kind<=3->0<=a.sl/\a.sl<16)
def QsT(k:Kn)(a:Ac):VCalls prog 216 [.agg k.d,.agg a.d] [] (QG inD (QGl k a)):=by
 refine dk Tryz.func216 ?_
 unfold QGl
 (unfold Tryz.f216; refine rn trivial ?_)
 have F:=@QEt
 refine rn F ?_
 repeat' (first
  | with_reducible exact⟨⟩
  | (refine sG F ?_ ?_<;>intro hZ)
  | (refine sB F ?_ ?_<;>intro hZ)
  | (refine Qc (id:=9) [0,1,2,3,4] [⟨[],[],5,[2,3],[6]⟩,⟨[],[],7,[],[]⟩] (by kernel_rfl) (by kernel_rfl) ?_; refine rn F ?_))
 all_goals first
  | exact⟨rfl,rfl,_,rfl,fun h=>absurd h (by decide)⟩
  | exact⟨rfl,rfl,0,rfl,fun _=>⟨⟨by omega,by omega⟩,fun _=>⟨by omega,by omega⟩⟩⟩
  | skip
@[go_sem] def gbD(a:Gr×Bool):DV:=.tup [.agg a.1.d,.bool a.2]
def Qsp(tx:Int)(a:Ac):VCalls prog 177 [.int .i64 tx,.agg a.d] [] (QG gbD fun _=>True):=by
 refine dd Tryz.func177 ?_
 (unfold Tryz.f177; refine rn trivial ?_)
 refine rn F ?_
 repeat' (first
  | with_reducible exact⟨⟩
  | (refine sB F ?_ ?_<;>intro hZ))
 all_goals first
  | exact⟨rfl,rfl,(⟨_,_,_,_⟩,_),rfl,trivial⟩
  | skip
def QGb(k:Kn)(tx:Int)(a:Ac)(e:Int):Prop:=e=0->VK k/\(0<=idT k.tx tx/\(Qa7 k.tx tx).st=1)/\(1<=a.kind/\a.kind<=7)/\(a.kind<=3->0<=a.sl/\a.sl<16)
def QpC(k:Kn)(h:k.sm)(tx:Int)(a:Ac):VCalls prog 172 [.agg k.d,.int .i64 tx,.agg a.d] [] (QG inD (QGb k tx a)):=by
 refine dk Tryz.func172 ?_
 have c1:=QaW k h
 obtain⟨h1,h2,h3,h4,h5,h6⟩:=h
 have c2:=Qb3 k.tx (Je h4.1 (by decide)) tx
 have c3:=QsT k a
 have c4:=Qds k.lk (by omega) tx
 have c5:=Qsp tx a
 unfold QGb
 rcases QB k.tx tx with hn | ⟨i,hil,hid,_⟩
 ·rw [hn] at c2
  (unfold Tryz.f172; refine rn trivial ?_)
  refine rn F ?_
  repeat' (first
   | with_reducible exact⟨⟩
   | (refine sB F ?_ ?_<;>intro hZ)
   | (refine Qo (c1) rfl ?_; rintro b hb; refine rn F ?_)
   | refine vp F (c2) ?_)
  all_goals exact⟨rfl,rfl,_,rfl,fun h=>absurd h (by decide)⟩
 rw[hid] at c2
 have hg:=Qea k.tx i hil
 have hta:=Qd1 hid
 (unfold Tryz.f172; refine rn trivial ?_)
 have F:=(Jd @hg @Qu9)
 refine rn F ?_
 repeat' (first
  | with_reducible exact⟨⟩
  | (refine sG F ?_ ?_<;>intro hZ)
  | (refine sB F ?_ ?_<;>intro hZ)
  | (refine Qo (c1) rfl ?_; rintro b hb; refine rn F ?_)
  | refine vp F (c2) ?_
  | (refine Qo (c3) rfl ?_; rintro e3 he3; refine rn F ?_)
  | (refine Qo (c4) rfl ?_; rintro⟨w,ws⟩ -; refine rn F ?_)
  | (refine Qo (c5) rfl ?_; rintro⟨g,nd⟩ -; refine rn F ?_))
 all_goals first
  | exact⟨rfl,rfl,_,rfl,fun h=>absurd h (by first | assumption | decide)⟩
  | exact⟨rfl,rfl,0,rfl,fun _=>⟨hb (by assumption),⟨by omega,by rw[hta]; omega⟩,(he3 (by omega)).1,(he3 (by omega)).2⟩⟩
  | skip
def QAx(k:Kn)(h:k.lk.sum<=5000)(tx:Int):VCalls prog 181 [.agg k.d,.int .i64 tx] [] (QG inD fun _=>True):=by
 refine dd Tryz.func181 ?_
 have c1:=Qob k.lk h tx
 (unfold Tryz.f181; refine rn trivial ?_)
 refine rn F ?_
 repeat' (first
  | with_reducible exact⟨⟩
  | (refine Qo (c1) rfl ?_; rintro m -; refine rn F ?_)
  | (refine Qo (QwJ m) rfl ?_; rintro n -; refine rn F ?_))
 exact⟨rfl,rfl,_,rfl,trivial⟩
def doQ(k:Kn)(a:Ac)(r:Kn×Rs):Prop:=r.1.sm/\(r.2.st=3->r.1.pl=k.pl/\r.2.pg=a.pg/\idF k.pl.fs a.pg<0/\Str 0 k r.1)/\(r.2.st=2->Str 0 k r.1)/\(r.2.st≠3->r.2.st≠2->r.2.st≠5->Str 1 k r.1)
def QoR(k:Kn)(h:k.sm)(a:Ac)(e:Int):doQ k a (k,QaA e):=⟨h,fun h=>by simp[QaA] at h,fun h=>by simp[QaA] at h,fun _ _ h=>absurd rfl h⟩
def QDf(k:Kn)(h:k.sm)(tx:Int)(a:Ac):VCalls prog 126 [.agg k.d,.int .i64 tx,.agg a.d] [] (QG krD (doQ k a)):=by
 refine dk Tryz.func126 ?_
 have h':=h
 have c1:=QpC k h tx a
 have c2:=QsN k h tx
 have c3:=Qn8 k h tx 1
 obtain⟨h1,h2,h3,h4,h5,h6⟩:=h
 have hsl:=h4.smL (by omega)
 have c4:=QAj k.tx hsl tx
 have c5:=QAF k.tx hsl tx a.sl
 have m4:=Qwc (l:=k.tx) tx
 have m5:=Qyj (l:=k.tx) tx a.sl
 have c6:=Qsp tx a
 have c7:=fun g=>QpB k.lk (by omega) g
 have hK:=fun(u:Lk) (hu:u.sum<=1024)=>(⟨h1,h2,hu,h4,h5,h6⟩:Kn.sm ⟨k.pg,k.nx,k.lg,k.pl,u,k.tx,k.ix,k.la⟩)
 have c8:=fun(u:Lk) (hu:u.sum<=1024) (hv:VK k)=>QsU ⟨k.pg,k.nx,k.lg,k.pl,u,k.tx,k.ix,k.la⟩ (hK u hu) hv tx
 have c9:=fun(u:Lk) (hu:u.sum<=1024)=>QwN u (by omega) tx
 have c10:=fun(u:Lk) (hu:u.sum<=1024)=>Qn8 ⟨k.pg,k.nx,k.lg,k.pl,u,k.tx,k.ix,k.la⟩ (hK u hu) tx 4
 (unfold Tryz.f126; refine rn trivial ?_)
 refine Qo c1 rfl ?_
 rintro er her
 by_cases he:er=0
 rotate_left
 ·skip
  have F:=@he
  refine rn F ?_
  repeat' (first
   | with_reducible exact⟨⟩
   | refine vp F (Qae _) ?_
   | (refine Qc (id:=3) [0,1] [⟨[],[],2,[0],[]⟩,⟨[],[],3,[1],[]⟩,⟨[],[],4,[],[]⟩] (by kernel_rfl) (by kernel_rfl) ?_; refine rn F ?_))
  exact⟨rfl,rfl,(k,QaA er),rfl,QoR k h' a er⟩
 obtain⟨hv,⟨hi,hst⟩,hk,hs⟩:=her he
 have hst3:(Qa7 k.tx tx).st≠3:=by omega
 subst he
 have F:=trivial
 refine rn F ?_
 repeat' (first
  | with_reducible exact⟨⟩
  | (refine sB F ?_ ?_<;>intro hZ)
  | (refine Qo (c2 hi hst3) rfl ?_; rintro⟨k1,r1⟩ hq; refine rn F ?_)
  | (refine Qo (c3 hi hst3) rfl ?_; rintro⟨k1,r1⟩ hq; refine rn F ?_)
  | refine vp F (c4) ?_
  | refine vp F (c5) ?_
  | refine vp F (Qae _) ?_
  | (refine Qo (c6) rfl ?_; rintro⟨g,nd⟩ -; refine rn F ?_)
  | (refine Qo (c7 ⟨_,_,_,_⟩) rfl ?_; rintro⟨u,hd,e7⟩ hu; refine rn F ?_)
  | (refine Qo (c8 u hu hv hi hst a (hs (by omega))) rfl ?_; rintro⟨k1,r1⟩ hq; refine rn F ?_)
  | (refine Qo (c9 u hu) rfl ?_; rintro cy -; refine rn F ?_)
  | (refine Qo (c10 u hu hi hst3) rfl ?_; rintro⟨k1,r1⟩ hq; refine rn F ?_)
  | (refine Qo (QAx ⟨k.pg,k.nx,k.lg,k.pl,u,k.tx,k.ix,k.la⟩ (Je hu (by decide)) tx) rfl ?_; rintro n -; refine rn F ?_)
  | (refine Qc (id:=15) [0,1] [⟨[],[],2,[0],[]⟩,⟨[],[],3,[1],[]⟩,⟨[],[],4,[],[]⟩] (by kernel_rfl) (by kernel_rfl) ?_; refine rn F ?_)
  | (refine Qc (id:=21) [0,1] [⟨[],[],2,[0],[]⟩,⟨[],[],3,[1],[]⟩,⟨[],[],4,[],[]⟩] (by kernel_rfl) (by kernel_rfl) ?_; refine rn F ?_)
  | (refine Qc (id:=27) [0,1] [⟨[],[],2,[1],[]⟩,⟨[],[],3,[],[]⟩] (by kernel_rfl) (by kernel_rfl) ?_; refine rn F ?_)
  | (refine Qc (id:=28) [0,1] [⟨[],[],2,[1],[]⟩,⟨[],[],3,[],[]⟩] (by kernel_rfl) (by kernel_rfl) ?_; refine rn F ?_)
  | (refine Qc (id:=32) [0,1] [⟨[],[],2,[1],[]⟩,⟨[],[],3,[],[]⟩] (by kernel_rfl) (by kernel_rfl) ?_; refine rn F ?_)
  | (refine Qc (id:=33) [0,1] [⟨[],[],2,[1],[]⟩,⟨[],[],3,[],[]⟩] (by kernel_rfl) (by kernel_rfl) ?_; refine rn F ?_)
  | (refine Qc (id:=34) [0,1,2] [⟨[],[],3,[0],[4]⟩,⟨[],[],5,[1,2,4],[]⟩,⟨[],[],6,[],[]⟩] (by kernel_rfl) (by kernel_rfl) ?_; refine rn F ?_))
 all_goals first
  | exact⟨rfl,rfl,(k,QaA _),rfl,QoR k h' a _⟩
  | exact⟨rfl,rfl,(⟨k.pg,k.nx,k.lg,k.pl,k.lk,(Qh3 k.tx tx).1,k.ix,k.la⟩,⟨1,0,0,Ce0,0⟩),rfl,⟨h1,h2,h3,m4,h5,h6⟩,fun h=>by simp at h,fun h=>by simp at h,fun _ _ _=>(Str.one (.save tx (by omega))).mono (by omega)⟩
  | exact⟨rfl,rfl,(⟨k.pg,k.nx,k.lg,k.pl,k.lk,(Qij k.tx tx a.sl).1,k.ix,k.la⟩,⟨1,0,0,Ce0,0⟩),rfl,⟨h1,h2,h3,m5,h5,h6⟩,fun h=>by simp at h,fun h=>by simp at h,fun _ _ _=>(Str.one (.back tx a.sl (by omega))).mono (by omega)⟩
  | exact⟨rfl,rfl,(⟨k.pg,k.nx,k.lg,k.pl,u,k.tx,k.ix,k.la⟩,⟨2,n,0,Ce0,0⟩),rfl,hK u hu,fun h=>by simp at h,fun _=>Str.one (.lock u),fun _ h=>absurd rfl h⟩
  | exact⟨rfl,rfl,(k1,r1),rfl,hq.1,fun h=>by have:=hq.2.1; dsimp only at this h; omega,fun h=>by have:=hq.2.1; dsimp only at this h; omega,fun _ _ h=>(hq.2.2 h).mono (by omega)⟩
  | exact⟨rfl,rfl,(k1,r1),rfl,hq.1,fun h=>by have:=hq.2.1; dsimp only at this h; omega,fun h=>by have:=hq.2.1; dsimp only at this h; omega,fun _ _ h=>(Str.one (.lock u)).tr0 ((hq.2.2 h).mono (by omega))⟩
  | exact⟨rfl,rfl,(k1,r1),rfl,hq.1,fun h=>⟨Eq.trans (congrArg Kn.pl (hq.2.1 h).1) rfl,(hq.2.1 h).2.1,(hq.2.1 h).2.2,by have q:=(hq.2.1 h).1; dsimp only at q; subst q; exact Str.one (.lock u)⟩,fun h=>by have:=hq.2.2.1; dsimp only at this h; omega,fun a1 a2 a3=>(Str.one (.lock u)).tr0 (hq.2.2.2 (by have:=hq.2.2.1; dsimp only at this a1 a3 |-; omega))⟩
  | exact⟨rfl,rfl,(k,r1),rfl,h',fun h=>by dsimp only at h; omega,fun h=>by dsimp only at h; omega,fun _ _ h=>by dsimp only at h; omega⟩
  | skip
section
attribute [local go_sem] Qba
def QoB(h:∃ i,i<l.length/\a=(l.getD i Fm0).pg.id):∃ j:Nat,j<l.length/\idF l a=j/\(l.getD j Fm0).pg.id=a:=by
 obtain⟨i,hi,ha⟩:=h
 rcases QaY l a with hn | ⟨j,hj,h1,h2⟩
 ·unfold idF Qmn at hn
  rw[if_pos (JW.2 ⟨l[i],Jg hi,by rw[ha,Qd l i hi]; simp⟩)] at hn
  omega
 ·exact⟨j,hj,h1,h2⟩
def Quu(p:Pl)(a:Int)(h:p.fs.length<=64):(QdR p a).1.fs.length<=64:=by
 unfold QdR
 repeat' split
 all_goals first
  | exact Jk _
  | (simp only[Jf,Jq,JV]; omega)
def QxU(hp:plB p=true)(hi:0<=idF p.fs a)(hd:¬ (p.fs.getD (idF p.fs a).toNat Fm0).dirty=true):(QdR p a).2=0:=by
 unfold QdR
 rw[if_neg (by rw[hp]; decide),if_neg (by omega),if_neg hd]
@[go_sem] def QFp(a:Kn×Pg×Bool×Int):DV:=.tup [.agg a.1.d,.agg a.2.1.d,.bool a.2.2.1,.int .i64 a.2.2.2]
def QFo(k:Kn)(a:Kn×Pg×Bool×Int):Prop:=a.1.sm/\(a.2.2.2=0->Str 0 k a.1/\a.1.tx=k.tx/\(a.2.2.1=true->plB a.1.pl=true/\SameF k.pl.fs a.1.pl.fs/\∃ i,i<a.1.pl.fs.length/\idF a.1.pl.fs a.2.1.id=i/\(a.1.pl.fs.getD i Fm0).pg=a.2.1/\(a.1.pl.fs.getD i Fm0).dirty=true))
def QAk(k:Kn)(h:k.sm):VCalls prog 159 [.agg k.d] [] (QG QFp (QFo k)):=by
 refine dk Tryz.func159 ?_
 have h':=h
 have c1:=QaW k h
 obtain⟨h1,h2,h3,h4,h5,h6⟩:=h
 have c2:=QAm k.pl (by omega)
 (unfold Tryz.f159; refine rn trivial ?_)
 refine Qo c1 rfl ?_
 rintro b hb
 cases b
 ·skip
  refine rn F ?_
  exact⟨rfl,rfl,(Kn0,Pg0,false,15),rfl,QbW,fun h=>by simp at h⟩
 have hv:=hb rfl
 obtain⟨v1,v2,v3,v4,v5,v6,v7⟩:=hb rfl
 have hd:=Qlc v4
 simp only[Pl.hd] at hd
 refine rn F ?_
 repeat' (first
  | with_reducible exact⟨⟩
  | (refine sB F ?_ ?_<;>intro hZ))
 ·exact⟨rfl,rfl,(k,Pg0,false,0),rfl,h',fun _=>⟨Str.refl _,rfl,fun h=>by simp at h⟩⟩
 refine Qo c2 rfl ?_
 rintro⟨p,id,e⟩ ⟨w1,w2,w3⟩
 obtain rfl:e=0:=w2 v4 (by omega)
 obtain⟨_,w4,w5,w6,w7⟩:=w1 rfl
 obtain⟨i,hi,hid,hix⟩:=QoB w7
 dsimp only at w3 w4 w5 w6 hi hid hix
 have c3:=Qcz p (by omega) id
 have hf:Qbn p id=i:=by unfold Qbn; rw[if_pos w4]; exact hid
 rw[hf] at c3
 have hg:=Qb0 p.fs i hi
 have c4:=Qwt p (by omega) id
 have hdl:=Quu p id (by omega)
 have hdo:=fun hd=>QxU (p:=p) (a:=id) w4 (by rw[hid]; omega) hd
 rw[hid,Jj] at hdo
 have hsm:∀ q:Pl,q.fs.length<=64->(⟨k.pg,k.nx,k.lg,q,k.lk,k.tx,k.ix,k.la⟩:Kn).sm:=fun q hq=>⟨h1,hq,h3,h4,h5,h6⟩
 have c5:=Qew ⟨k.pg,k.nx,k.lg,p,k.lk,k.tx,k.ix,k.la⟩ (hsm p (by omega))
 generalize hff:p.fs.getD i Fm0=f at *
 have F:=@hg
 refine rn F ?_
 repeat' (first
  | with_reducible exact⟨⟩
  | (refine sB F ?_ ?_<;>intro hZ)
  | refine vp F (c3) ?_
  | refine vp F (c4) ?_
  | (refine Qo (c5 _) rfl ?_; rintro d hd2; refine rn F ?_)
  | (refine Qc (id:=7) [0,1,2,3] [⟨[7],[],4,[0,1],[5,6]⟩,⟨[7],[7],8,[],[]⟩] (by kernel_rfl) (by kernel_rfl) ?_; refine rn F ?_)
  | (refine Qc (id:=11) [0,1,2,3,5,6] [⟨[],[],4,[1,2,5,6],[]⟩,⟨[],[],7,[5,6],[]⟩,⟨[],[],8,[],[]⟩,⟨[],[],9,[],[]⟩,⟨[],[],10,[],[]⟩] (by kernel_rfl) (by kernel_rfl) ?_; refine rn F ?_))
 ·exact⟨rfl,rfl,(⟨k.pg,k.nx,k.lg,(QdR p id).1,k.lk,k.tx,k.ix,k.la⟩,Pg0,false,0),rfl,hsm _ hdl,fun _=>⟨(Str.one (.pool p w5)).step (.drop id (hdo (by first | assumption | simp_all))),rfl,fun h=>by simp at h⟩⟩
 ·exact⟨rfl,rfl,(⟨k.pg,k.nx,⟨k.lg.f,k.lg.es,d⟩,p,k.lk,k.tx,k.ix,k.la⟩,f.pg,true,0),rfl,⟨h1,by dsimp only; omega,h3,h4,h5,h6⟩,fun _=>⟨(Str.one (.pool p w5)).step (.force d hd2),rfl,fun _=>⟨w4,w5,i,hi,by dsimp only; rw[hix]; exact hid,by dsimp only; rw[hff],by dsimp only; rw[hff]; first | assumption | simp_all⟩⟩⟩
@[go_sem] def QD2(a:Kn×Pg×Int):DV:=.tup [.agg a.1.d,.agg a.2.1.d,.int .i64 a.2.2]
def Qy3(k:Kn)(n:Int)(a:Kn×Pg×Int):Prop:=a.1.sm/\(a.2.2=0->Str 0 k a.1/\0<=Qbn k.pl n/\a.2.1=(QeP k.pl n).1/\a.1.pl=k.pl/\a.1.tx=k.tx)
def QwI(k:Kn)(h:k.sm)(n:Int):VCalls prog 81 [.agg k.d,.int .i64 n] [] (QG QD2 (Qy3 k n)):=by
 refine dk Tryz.func81 ?_
 have c1:=QaW k h
 have h':=h
 obtain⟨h1,h2,h3,h4,h5,h6⟩:=h
 have c2:=QgX k.pl (by omega) n
 have c3:=Qew k h'
 have hz:(QeP k.pl n).2=true->0<=Qbn k.pl n:=fun h=>by
  unfold QeP at h
  split at h
  ·simp at h
  ·omega
 unfold Qy3
 generalize QeP k.pl n=g at *
 (unfold Tryz.f81; refine rn trivial ?_)
 refine rn F ?_
 repeat' (first
  | with_reducible exact⟨⟩
  | (refine sB F ?_ ?_<;>intro hZ)
  | (refine Qo (c1) rfl ?_; rintro b -; refine rn F ?_)
  | refine vp F (c2) ?_
  | (refine Qo (c3 _) rfl ?_; rintro d hd; refine rn F ?_)
  | (refine Qc (id:=6) [0,1,2,4] [⟨[],[],3,[1,4],[]⟩,⟨[],[],5,[4],[]⟩,⟨[],[],6,[],[]⟩,⟨[],[],7,[],[]⟩] (by kernel_rfl) (by kernel_rfl) ?_; refine rn F ?_))
 all_goals first
  | exact⟨rfl,rfl,(Kn0,Pg0,15),rfl,QbW,fun h=>by simp at h⟩
  | exact⟨rfl,rfl,(Kn0,Pg0,18),rfl,QbW,fun h=>by simp at h⟩
  | exact⟨rfl,rfl,(⟨k.pg,k.nx,⟨k.lg.f,k.lg.es,d⟩,k.pl,k.lk,k.tx,k.ix,k.la⟩,g.1,0),rfl,⟨h1,h2,h3,h4,h5,h6⟩,fun _=>⟨Str.one (.force d hd),hz (by first | assumption | simp_all),rfl,rfl,rfl⟩⟩
  | skip
def Qql(p:Pl)(a n:Int)(h:p.fs.length<=64):(QaR p a n).1.fs.length<=64:=by
 unfold QaR
 repeat' split
 all_goals first | exact Jk _ | exact h | simpa using h
def QF2(id n:Int):E:=⟨0,7,0,0,0,n,⟨id,0,Ce0,Ce0⟩,[]⟩
def Qvr(k:Kn)(id n:Int)(a:Kn×Int):Prop:=a.1.sm/\(a.2=0->∃ e',AddOk k (QF2 id n) e'/\a.1.tx=k.tx/\(0<=Qbn k.pl id->a.1=k.wrt e'/\(QaR k.pl id n).2=0))
def Qpw (k:Kn) (h:k.sm) (id n:Int):VCalls prog 104 [.agg k.d,.int .i64 id,.int .i64 n] [] (QG kiD (Qvr k id n)):=by
 refine dk Tryz.func104 ?_
 have c1:=QaW k h
 have h':=h
 obtain⟨h1,h2,h3,h4,h5,h6⟩:=h
 have c2:=Qgf k.lg (by omega)
 have c3:=Qcz k.pl (by omega) id
 have c4:=fun(h:n<=1099511627776) (h0:0<=n)=>Qsk k.pl (by omega) id n h h0
 have c5:=Qd5 k h' ⟨0,7,0,0,0,n,⟨id,0,Ce0,Ce0⟩,[]⟩
 have hcl:=Qql k.pl id n h2
 (unfold Tryz.f104; refine rn trivial ?_)
 refine Qo c1 rfl ?_
 rintro b hb
 cases b
 ·skip
  refine rn F ?_
  exact⟨rfl,rfl,(Kn0,15),rfl,QbW,fun h=>by simp at h⟩
 have hv:=hb rfl
 have hls:Qhk k.lg<=1099511627776:=by
  unfold Qhk; rw[if_pos hv.2.2.1]; exact Qtw hv.2.2.1
 refine rn F ?_
 repeat' (first
  | with_reducible exact⟨⟩
  | (refine sG F ?_ ?_<;>intro hZ)
  | (refine sB F ?_ ?_<;>intro hZ)
  | refine vp F (c2) ?_
  | refine vp F (c3) ?_
  | refine vp F (c4 (by omega) (by omega)) ?_
  | (refine Qo (c5) rfl ?_; rintro⟨k1,n1,e1⟩ hq; refine rn F ?_))
 all_goals first
  | exact⟨rfl,rfl,(Kn0,1),rfl,QbW,fun h=>by simp at h⟩
  | exact⟨rfl,rfl,(Kn0,(QaR k.pl id n).2),rfl,QbW,fun h=>absurd h (by assumption)⟩
  | exact⟨rfl,rfl,(Kn0,e1),rfl,QbW,fun h=>absurd h (by assumption)⟩
  | (have he1:e1 = 0:=by omega
     obtain⟨e',ha,hk1,hn1,hl1⟩:=hq.2 he1
     have q8:=Qvc hq he1 rfl
     obtain⟨r1,r2,r3,r4,r5,r6⟩:=hq.1
     first
      | exact⟨rfl,rfl,(⟨k1.pg,k1.nx,k1.lg,(QaR k.pl id n).1,k1.lk,k1.tx,k1.ix,k1.la⟩,0),rfl,⟨r1,hcl,r3,r4,r5,r6⟩,fun _=>⟨e',ha,q8,fun _=>⟨by dsimp only at hk1; subst hk1; unfold Kn.wrt; rw[ha.2.1.2.2.2.1,ha.2.1.2.2.1]; rfl,by omega⟩⟩⟩
      | exact⟨rfl,rfl,(⟨k1.pg,k1.nx,k1.lg,k.pl,k1.lk,k1.tx,k1.ix,k1.la⟩,0),rfl,⟨r1,h2,r3,r4,r5,r6⟩,fun _=>⟨e',ha,q8,fun h=>by omega⟩⟩)
  | skip
end
section
attribute [local go_sem] Qba
def QsX(h:(Qom p x).2=0):plB p=true/\QaS x=0/\idF p.fs x.id<0/\¬ (p.fs.length:Int)=p.size:=by
 unfold Qom at h
 split at h
 ·simp at h
 rename_i q1
 split at h
 ·rename_i q2; exact absurd h q2
 rename_i q2
 split at h
 ·simp at h
 rename_i q3
 split at h
 ·simp at h
 rename_i q4
 exact⟨by simpa using q1,by simpa using q2,by omega,q4⟩
def QEY(p:Pl)(x:Pg)(o:Nat):Qa:=[⟨31,true,[.int .i64 p.size,.own (o+5) 37 0 (p.fs.length+1),.int .i64 p.hand]⟩,⟨159,true,x.d⟩,⟨31,true,[.int .i64 p.size,.own (o+5) 37 0 (p.fs.length+1),.int .i64 p.hand]⟩,⟨163,false,[]⟩,⟨163,true,Fm.d ⟨x,false,0,true⟩⟩,⟨163,true,cells Qcv (p.fs++[⟨x,false,0,true⟩])⟩]
def QAq(p:Pl)(hl:p.fs.length<=100000)(x:Pg)(h:(Qom p x).2=0):VCalls prog 163 [.agg p.d,.agg x.d] [] fun r h'=>r=.tup [.agg [.int .i64 p.size,.own 5 37 0 (p.fs.length+1),.int .i64 p.hand],.int .i64 0]/\h'=QEY p x 0:=by
 refine Qcw (fn:=Tryz.f163) Tryz.func163 rfl (by kernel_rfl) (by simp[Tryz.f163]) ?_
 obtain⟨e1,e2,e3,e4⟩:=QsX h
 have c1:=Qak p (by omega)
 have c2:=Qdx x
 have c3:=QcA p (by omega) x.id
 rw[e1] at c1
 rw[e2] at c2
 have e5:¬ 0<=idF p.fs x.id:=by omega
 generalize idF p.fs x.id=m at *
 (unfold Tryz.f163; refine rn trivial ?_)
 have F:=(Jd @e5 @e4)
 refine rn F ?_
 repeat' (first
  | with_reducible exact⟨⟩
  | refine vp F (c1) ?_
  | refine vp F (c2) ?_
  | refine vp F (c3) ?_
  | (refine Qc (id:=10) [0,1,3,4] [⟨[5],[],2,[0,3,4],[]⟩,⟨[5],[5],6,[0,1,3,4],[7]⟩,⟨[],[],8,[],[]⟩] (by kernel_rfl) (by kernel_rfl) ?_; refine rn F ?_))
 all_goals rfl
def Qi4(hp h':Qa):QR hp [] h'=hp++h'.map (QdN (back [] hp.length)):=by
 unfold QR
 congr 1
 apply List.ext_getElem?
 intro k
 rw[List.getElem?_map]
 by_cases hk:k<hp.length
 ·rw [List.getElem?_range hk]
  simp[JJ hk]
 ·rw [JD (l:=Jw hp.length) (by simpa using hk),JD (l:=hp) (by omega)]
  rfl
def QCN(p:Pl)(hl:p.fs.length<=100000)(x:Pg)(hz:(Qom p x).2=0)(h:K (.tup [.agg [.int .i64 p.size,.own (hp.length+5) 37 0 (p.fs.length+1),.int .i64 p.hand],.int .i64 0]) (hp++QEY p x hp.length)):VCalls prog 163 [.agg p.d,.agg x.d] hp K:=by
 refine(VCalls.frame [] J8 rfl rfl (QAq p hl x hz) rfl rfl).mono ?_
 rintro r h2 ⟨r0,h',⟨rfl,rfl⟩,-,rfl,rfl⟩
 rw[Qi4]
 have e1:QdN (back [] hp.length) ⟨159,true,x.d⟩=⟨159,true,x.d⟩:=QaN rfl
 have e2:QdN (back [] hp.length) ⟨163,true,Fm.d ⟨x,false,0,true⟩⟩=⟨163,true,Fm.d ⟨x,false,0,true⟩⟩:=QaN rfl
 have e3:QdN (back [] hp.length) ⟨163,true,cells Qcv (p.fs++[⟨x,false,0,true⟩])⟩=⟨163,true,cells Qcv (p.fs++[⟨x,false,0,true⟩])⟩:=QaN (Qs _ _ _)
 simp only[QEY,JQ,JM,e1,e2,e3] at h |-
 exact h
def QC7(l:List Fm)(f:Fm)(b:Bool):(cells Qcv (l++[f])).set (l.length*37+34) (.pv (.lit (.bool b)))=cells Qcv (l++[⟨f.pg,b,f.rc,f.used⟩]):=by
 rw[<- Qu6,<- Qu6,<- QE0 l,J1 _ _ (J5 _ _),JU]; rfl
def QC6(l:List Fm)(f:Fm)(n:Int):(cells Qcv (l++[f])).set (l.length*37+35) (.pv (.lit (.int .i64 n)))=cells Qcv (l++[⟨f.pg,f.dirty,n,f.used⟩]):=by
 rw[<- Qu6,<- Qu6,<- QE0 l,J1 _ _ (J5 _ _),JU]; rfl
def QGA(k:Kn)(x:Pg)(a:Kn×Int):Prop:=a.1.sm/\(a.2=0->Str 0 k a.1/\a.1.lg=k.lg/\a.1.tx=k.tx/\0<=idF a.1.pl.fs x.id)
def QFg(c:VCalls P g args hp (QG f Q))(h:∀ a,Q a->f a=d):VCalls P g args hp (Ret d):=
 c.mono fun _ _ ⟨h1,h2,a,e,q⟩=>⟨h1,h2,e.trans (h a q)⟩
def flY(l:List Dt)(n:Int)(i:Nat):List Dt:=(l.take i).filter fun d=>decide (d.pg≠n)
def QxK(l:List Dt)(n:Int)(i:Nat)(h:i<l.length):flY l n (i+1)=if (l.getD i Dt0).pg=n then flY l n i else flY l n i++[l.getD i Dt0]:=by
 unfold flY
 rw[Jn h,List.filter_append,Qd l i h]
 split<;>rename_i hx<;>simp[hx]
def QBM(l:List Dt)(n:Int)(i:Nat):(flY l n i).length<=i:=Je (JY _ _) (by rw[Jq]; omega)
def Qxt(l:List Fm)(f:Fm):0<=idF (l++[f]) f.pg.id:=by
 obtain⟨j,_,h,_⟩:=QoB (l:=l++[f]) (a:=f.pg.id) ⟨l.length,by simp,by rw[Ja,Jv (JT _),J0]; rfl⟩
 omega
def Qsb (k:Kn) (h:k.sm) (x:Pg):VCalls prog 118 [.agg k.d,.agg x.d] [] (QG kiD (QGA k x)):=by
 refine dk Tryz.func118 ?_
 have h':=h
 have c1:=QbN k h
 have c2:=QFg (d:=.int .i64 (Qfo k x.id)) (QmZ k h x.id) fun a q=>by rw[q]; rfl
 obtain⟨h1,h2,h3,h4,h5,h6⟩:=h
 have c3:=QAp k.pl (by omega) x
 have c4:=Qge k (by omega) x.id
 (unfold Tryz.f118; refine rn trivial ?_)
 cases hv:kB k
 ·rw [hv] at c1
  refine rn F ?_
  repeat' (first
   | with_reducible exact⟨⟩
   | refine vp F (c1) ?_)
  exact⟨rfl,rfl,(Kn0,_),rfl,QbW,fun h=>by simp at h⟩
 rw[hv] at c1
 refine rn F ?_
 repeat' (first
  | with_reducible exact⟨⟩
  | (refine sG F ?_ ?_<;>intro hZ)
  | (refine sB F ?_ ?_<;>intro hZ)
  | refine vp F (c1) ?_
  | refine vp F (c2) ?_
  | (refine Qc (id:=5) [0,1,2,3,4] [⟨[],[],5,[0,1,3],[6]⟩,⟨[],[],7,[0,1,2,3,4],[]⟩] (by kernel_rfl) (by kernel_rfl) ?_; refine rn F ?_)
  | (refine Qc (id:=7) [0,1,2,3,4] [⟨[],[],5,[0,1,3],[6]⟩,⟨[],[],7,[0,1,2,3,4],[]⟩] (by kernel_rfl) (by kernel_rfl) ?_; refine rn F ?_))
 all_goals first
  | exact⟨rfl,rfl,(Kn0,_),rfl,QbW,fun h=>by simp at h⟩
  | skip
 have hpe:(Qom k.pl x).2≠0->(Qom k.pl x).1=Pl0:=fun h=>by
  unfold Qom at h |-
  repeat' split
  all_goals first | rfl | simp_all
 by_cases hz:(Qom k.pl x).2=0
 rotate_left
 ·rw [hpe hz] at c3
  have F:=@hz
  refine rn F ?_
  repeat' (first
   | with_reducible exact⟨⟩
   | refine vp F (c3) ?_)
  exact⟨rfl,rfl,(Kn0,_),rfl,QbW,fun h=>absurd h hz⟩
 refine QCN k.pl (by omega) x hz ?_
 obtain⟨p1,p2,p3,p4⟩:=QsX hz
 have hd:=Qlc p1
 simp only[Pl.hd] at hd
 unfold QEY
 have s34:=QC7 k.pl.fs
 have s35:=QC6 k.pl.fs
 have hi0:=Qxt k.pl.fs
 have hnn:k.pl.fs.length+1-1=k.pl.fs.length:=by omega
 have h34:(k.pl.fs.length*37+34<(k.pl.fs.length+1)*37)=True:=eq_true (by omega)
 have h35:(k.pl.fs.length*37+35<(k.pl.fs.length+1)*37)=True:=eq_true (by omega)
 have F:=(Jd @s34 (Jd @s35 (Jd @hnn (Jd @h34 @h35))))
 refine rn F ?_
 repeat' (first
  | with_reducible exact⟨⟩
  | (refine sB F ?_ ?_<;>intro hZ)
  | (refine Qo (c4) rfl ?_; rintro⟨d,b2⟩ hdl; refine rn F ?_))
 rotate_left
 ·exact⟨rfl,rfl,(⟨k.pg,k.nx,k.lg,⟨k.pl.size,k.pl.fs++[⟨x,false,0,true⟩],k.pl.hand⟩,k.lk,k.tx,k.ix,k.la⟩,0),rfl,⟨h1,by simp; omega,h3,h4,h5,h6⟩,fun _=>⟨Str.one (.put x hv ⟨by omega,by omega⟩ (by omega) hz (by rw[<- hdl]; first | assumption | simp_all)),rfl,rfl,hi0 ⟨x,false,0,true⟩⟩⟩
 have hd1:(QaH k.la x.id).1=d:=by rw[<- hdl]
 have hb2:(QaH k.la x.id).2=true:=by rw[<- hdl]; first | assumption | simp_all
 have hst:=Stp.putl (k:=k) x hv ⟨by omega,by omega⟩ (by omega) hz hb2
 rw[hd1] at hst
 refine VLoop.nilOwn 10 171 3 rfl ?_
 refine rn trivial ?_
 refine Qi (fun s:To k.la.length=>⟨113,0,[(11,.int .i64 s.i),(10,.own 5 3 0 (flY k.la x.id s.i).length),(6,.ptr 4 0),(4,.ptr 2 0),(3,.ptr 1 0),(2,.ptr 0 0)],
  [⟨41,true,k.d⟩,⟨159,true,x.d⟩,⟨41,true,[.int .i64 0,.int .i64 0,.int .i64 0,.pv (.slc []),.int .i64 0,.int .i64 0,.pv (.slc []),.int .i64 0,.pv (.slc []),.pv (.slc []),.pv (.slc []),.pv (.slc []),.pv (.slc [])]⟩,⟨163,true,cells Qcv (k.pl.fs++[⟨x,true,d.rc,true⟩])⟩,⟨31,true,[.int .i64 k.pl.size,.own 3 37 0 (k.pl.fs.length+1),.int .i64 k.pl.hand]⟩,⟨171,true,cells QcM (flY k.la x.id s.i)⟩]⟩) (fun s=>k.la.length-s.i) ⟨0,Jk _⟩ (gc [0,1,2,8,9,11]) ?_
 rintro⟨i,hi⟩
 dsimp only
 have hsu:=QxK k.la x.id i
 have ho:=QBM k.la x.id i
 have hfin:k.la.length<=i->flY k.la x.id i=k.la.filter fun d=>decide (d.pg≠x.id):=fun h=>by unfold flY; rw[Jt h]
 generalize hout:flY k.la x.id i=out at *
 have hy:=fun h:i<k.la.length=>QeQ k.la i h
 have hb:(out.length+1)*24<=140737488355328:=by omega
 have F:=(Jd @hy @hb)
 refine rn F ?_
 repeat' (first
  | with_reducible exact⟨⟩
  | (refine sB F ?_ ?_<;>intro hZ)
  | (refine Qc (id:=20) [0,1,2,3,4,5,6,7,8] [] (by kernel_rfl) (by kernel_rfl) ?_; refine rn F ?_))
 all_goals first
  | (have e1:=hsu (by omega)
     rw[if_pos (by first | assumption | omega)] at e1
     refine⟨⟨i+1,by omega⟩,by dsimp only; omega,?_⟩
     dsimp only
     rw[e1]
     exact(gc [0,1,2,3,4,5]))
  | (have e1:=hsu (by omega)
     rw[if_neg (by first | assumption | omega)] at e1
     refine⟨⟨i+1,by omega⟩,by dsimp only; omega,?_⟩
     dsimp only
     rw[e1,Jf]
     exact(gc [0,1,2,3,4,7]))
  | (have e1:=hfin (by omega)
     rw[<- e1] at hst
     exact⟨rfl,rfl,(⟨k.pg,k.nx,k.lg,⟨k.pl.size,k.pl.fs++[⟨x,true,d.rc,true⟩],k.pl.hand⟩,k.lk,k.tx,k.ix,out⟩,0),rfl,⟨h1,by simp; omega,h3,h4,h5,by dsimp only; omega⟩,fun _=>⟨Str.one hst,rfl,rfl,hi0 ⟨x,true,d.rc,true⟩⟩⟩)
  | skip
end
def QGd(l:List (List UInt8)):(cells QdI l).length=l.length*1:=QV QdI l
def QG5(l:List (List UInt8))(n:Nat)(h:l.length*1<=n):(cells QdI l).take n=cells QdI l:=by rw[Jt]; rw[QGd]; exact h
def QGB(l:List (List UInt8)):(fz QdI l=[]\/(fz QdI l)[0]?.map List.length=some 1)=True:=QfO QdI l
def QGS(h:l.length=len):QoH n hp 0 1 len (some (cells QdI l))=some (.sl (fz QdI l)):=QZ QdI h
attribute [go_sem] QGd QG5 QGB QGS
def QyZ(l:List (List UInt8))(i:Nat)(h:i<l.length):(fz QdI l)[i]?=some [.str (l.getD i [])]:=Qda QdI l [] i h
def QFT(l:List (List UInt8))(x:List UInt8):cells QdI l++[.pv (.str x)]=cells QdI (l++[x]):=by rw[QM]; rfl
def QGr(l:List (List UInt8)):DV.wk.go (cells QdI l)=cells QdI l:=Qbd QdI l fun a p hp=>by
 simp[QdI] at hp; subst hp; rfl
attribute [go_sem] QFT QGr
structure Dv where
 ps:List (List UInt8)
 wr:Int
 dead:Bool
@[go_sem] def Dv.d(v:Dv):List DV:=[.pv (.sl (fz QdI v.ps)),.int .i64 v.wr,.pv (.sl []),.bool v.dead,.pv (.sl [])]
def Dv0:Dv:=⟨[],0,false⟩
def QGo(v:Dv):Prop:=(1<=v.ps.length/\v.ps.length<=64)/\(0<=v.wr/\v.wr<=1099511627776)/\∀ i,i<v.ps.length->(v.ps.getD i []).length=256
def QsH(v:Dv)(hl:v.ps.length<=100000):VCalls prog 186 [.agg v.d] [] (QG boD fun b=>b=true->QGo v):=by
 refine dd Tryz.func186 ?_
 (unfold Tryz.f186; refine rn trivial ?_)
 refine rn F ?_
 repeat' (first
  | with_reducible exact⟨⟩
  | (refine sG F ?_ ?_<;>intro hZ))
 all_goals first
  | exact⟨rfl,rfl,false,rfl,fun h=>by cases h⟩
  | skip
 refine Qi (fun s:Okay v.ps.length (fun i=>decide ((v.ps.getD i []).length=256))=>⟨99,0,[(4,.int .i64 s.i),(3,.int .i64 v.ps.length),(1,.ptr 0 0)],[⟨72,true,v.d⟩]⟩) (fun s=>v.ps.length-s.i) (Okay.start _ _) (gc [0]) ?_
 intro s
 have hsi:=s.hi
 have hg:=fun h:s.i<v.ps.length=>QyZ v.ps s.i h
 have F:=@hg
 refine rn F ?_
 repeat' (first
  | with_reducible exact⟨⟩
  | (refine sB F ?_ ?_<;>intro hZ))
 all_goals first
  | exact⟨rfl,rfl,false,rfl,fun h=>by cases h⟩
  | exact⟨s.next (by omega) (decide_eq_true (by omega)),s.dec (by omega),(gc [0])⟩
  | skip
 have hall:=s.all (by omega)
 simp only[Jp,Ju,decide_eq_true_eq] at hall
 refine Qi (fun s:Unit=>⟨99,0,[(5,.int .i64 0),(3,.int .i64 v.ps.length),(1,.ptr 0 0)],[⟨72,true,v.d⟩]⟩) (fun s=>0) () (gc [0]) ?_
 intro _
 have F:=trivial
 refine rn F ?_
 refine Qi (fun s:Unit=>⟨99,0,[(6,.int .i64 0),(1,.ptr 0 0)],[⟨72,true,v.d⟩]⟩) (fun s=>0) () (gc [0]) ?_
 intro _
 have F:=trivial
 refine rn F ?_
 exact⟨rfl,rfl,true,rfl,fun _=>⟨⟨by omega,by omega⟩,⟨by omega,by omega⟩,fun i hi=>hall i hi⟩⟩
def usQ(v:Dv)(n e:Int):Prop:=e=0->QGo v/\0<=n/\n<v.ps.length
def QgU(v:Dv)(hl:v.ps.length<=100000)(n:Int):VCalls prog 137 [.agg v.d,.int .i64 n] [] (QG inD (usQ v n)):=by
 refine dd Tryz.func137 ?_
 have c1:=QsH v hl
 unfold usQ
 (unfold Tryz.f137; refine rn trivial ?_)
 refine rn F ?_
 repeat' (first
  | with_reducible exact⟨⟩
  | (refine sG F ?_ ?_<;>intro hZ)
  | (refine sB F ?_ ?_<;>intro hZ)
  | (refine Qo (c1) rfl ?_; rintro b hb; refine rn F ?_))
 all_goals first
  | exact⟨rfl,rfl,_,rfl,fun h=>absurd h (by decide)⟩
  | exact⟨rfl,rfl,0,rfl,fun _=>⟨hb (by assumption),by omega,by omega⟩⟩
  | skip
def QDi(n:Int):VCalls prog 160 [.pv (.sl []),.int .i64 n] [] (Ret (.bool false)):=by
 refine dd Tryz.func160 ?_
 (unfold Tryz.f160; refine rn trivial ?_)
 refine Qi (fun s:Unit=>⟨18,0,[(5,.int .i64 0),(1,.int .i64 n),(0,.pv (.sl []))],[]⟩) (fun s=>0) () (gc []) ?_
 intro _
 (refine rn F ?_; try with_reducible exact⟨⟩)
def Qpx(n:Int):VCalls prog 187 [.pv (.sl []),.int .i64 n] [] (Ret (.pv (.sl []))):=by
 refine dk Tryz.func187 ?_
 (unfold Tryz.f187; refine rn trivial ?_)
 refine VLoop.wkS ?_
 refine rn trivial ?_
 refine Qi (fun s:Unit=>⟨27,0,[(6,.int .i64 0),(5,.pv (.sl [])),(1,.int .i64 n),(0,.pv (.sl []))],[]⟩) (fun s=>0) () (gc []) ?_
 intro _
 (refine rn F ?_; try with_reducible exact⟨⟩)
@[go_sem] def siD(a:List UInt8×Int):DV:=.tup [.pv (.str a.1),.int .i64 a.2]
def QwL(v:Dv)(hl:v.ps.length<=100000)(n:Int):VCalls prog 114 [.agg v.d,.int .i64 n] [] (QG siD fun a=>a.2=0->a.1.length=256):=by
 refine dd Tryz.func114 ?_
 have c1:=QgU v hl n
 have c2:=QDi n
 (unfold Tryz.f114; refine rn trivial ?_)
 have hg:=fun h:n.toNat<v.ps.length=>QyZ v.ps n.toNat h
 refine Qo c1 rfl ?_
 rintro e he
 by_cases h0:e=0
 ·obtain ⟨q1,q2,q3⟩:=he h0
  subst h0
  have F:=@hg
  refine rn F ?_
  repeat' (first
   | with_reducible exact⟨⟩
   | refine vp F (c2) ?_)
  exact⟨rfl,rfl,(v.ps.getD n.toNat [],0),rfl,fun _=>q1.2.2 _ (by omega)⟩
 ·skip
  have F:=@h0
  refine rn F ?_
  exact⟨rfl,rfl,([],e),rfl,fun h=>absurd h h0⟩
section
attribute [local go_sem] Qba
def Qry(k:Nat)(c:VCalls P g args0 [B] fun r h'=>r=r0/\h'=[B'])(hk:hp[k]?=some B)(hB:B.live=true/\DV.nums.go (fun _=>false) B.cells=true)(hB':DV.nums.go (fun _=>false) B'.cells=true)(ha0:args0=args.map (DV.ren fun j=>[k].idxOf j))(ha:DV.nums.go [k].contains args=true)(hr:r0.ren (back [k] hp.length)=r2)(h:K r2 (hp.set k B')):VCalls P g args hp K:=by
 subst hr
 have hlt:k<hp.length:=(List.getElem?_eq_some_iff.1 hk).1
 have hg:hp.getD k default=B:=by rw[Ja,hk]; rfl
 have hpl:Qg6 hp [k]:=⟨⟨hlt,by rw[hg]; exact hB.2⟩,trivial⟩
 refine(VCalls.frame [k] (by simp) (by rw[Qc4 hpl]; simp only[JQ,JM,hg]) (Qc5 hpl) c ha0 ha).mono ?_
 rintro r h2 ⟨r1,h',⟨rfl,rfl⟩,-,rfl,rfl⟩
 rw[Qqv hlt,JM,List.append_nil,QaN hB']
 exact h
def dvO(k n:Nat)(wr:Int)(dead:Bool):DV:=.agg [.own k 1 0 n,.int .i64 wr,.pv (.sl []),.bool dead,.pv (.sl [])]
def Qz8(l:List (List UInt8))(i:Nat)(s:List UInt8)(h:i<l.length):(cells QdI l).set i (.pv (.str s))=cells QdI (l.set i s):=by
 rw[QuT,QuT,Kc]
def Qn5(ps:List (List UInt8))(wr:Int)(dead:Bool)(i:Nat)(hi:i<ps.length)(h6:(ps.getD i []).length=256)(s:List UInt8)(n:Nat)(hn:n<=256)(hs:s.length=256) :
 VCalls prog 139 [dvO 0 ps.length wr dead,.int .i64 i,.pv (.str s),.int .i64 n] [⟨9,true,cells QdI ps⟩] (fun r h'=>r=dvO 0 ps.length wr dead/\h'=[⟨9,true,cells QdI (ps.set i (s.take n++(ps.getD i []).drop n))⟩]):=by
 unfold dvO
 refine dd Tryz.func139 ?_
 have c1:=Qpx i
 have hg:=Qqq ps i hi
 have hse:=fun s=>Qz8 ps i s hi
 generalize ps.getD i []=q at *
 (unfold Tryz.f139; refine rn trivial ?_)
 have hlt:(i<ps.length)=True:=eq_true hi
 have F:=(Jd @hg (Jd @hse @hlt))
 refine rn F ?_
 repeat' (first
  | with_reducible exact⟨⟩
  | refine vp F (c1) ?_
  | (refine Qc (id:=1) [0,1,2,3,4,5,6,7,8,9,10,11,12,13,14] [⟨[],[],15,[],[]⟩] (by kernel_rfl) (by kernel_rfl) ?_; refine rn F ?_))
 all_goals exact⟨rfl,rfl⟩
def cpD(o:Nat)(v:Dv):List DV:=[.own (o+2) 1 0 v.ps.length,.int .i64 v.wr,.own (o+3) 1 0 0,.bool v.dead,.own (o+4) 6 0 0]
def Qqi(v:Dv)(o:Nat):Qa:=[⟨72,true,cpD o v⟩,⟨72,true,cpD o v⟩,⟨9,true,cells QdI v.ps⟩,⟨3,true,[]⟩,⟨237,true,[]⟩]
def QAD(v:Dv)(hl:v.ps.length<=100000):VCalls prog 138 [.agg v.d] [] fun r h'=>r=.agg (cpD 0 v)/\h'=Qqi v 0:=by
 refine Qcw (fn:=Tryz.f138) Tryz.func138 rfl (by kernel_rfl) (by simp[Tryz.f138]) ?_
 unfold cpD Qqi
 have hb:v.ps.length*16<=140737488355328:=by omega
 (unfold Tryz.f138; refine rn trivial ?_)
 have F:=@hb
 (refine rn F ?_; try with_reducible exact⟨⟩)
 all_goals first | rfl | exact⟨rfl,rfl⟩
def Qrz(v:Dv)(hl:v.ps.length<=100000)(h:K (.agg (cpD hp.length v)) (hp++Qqi v hp.length)):VCalls prog 138 [.agg v.d] hp K:=by
 refine(VCalls.frame [] J8 rfl rfl (QAD v hl) rfl rfl).mono ?_
 rintro r h2 ⟨r0,h',⟨rfl,rfl⟩,-,rfl,rfl⟩
 rw[Qi4]
 have e3:QdN (back [] hp.length) ⟨9,true,cells QdI v.ps⟩=⟨9,true,cells QdI v.ps⟩:=QaN (Qs _ _ _)
 simp only[Qqi,JQ,JM,e3] at h |-
 exact h
@[go_sem] def dvD(a:Dv×Int):DV:=.tup [.agg a.1.d,.int .i64 a.2]
def dvQ(a:Dv×Int):Prop:=a.1.ps.length<=64
def QAg(v:Dv)(hl:v.ps.length<=100000)(pg:Int)(s:List UInt8)(hs0:s.length<=1000000)(n:Int):VCalls prog 108 [.agg v.d,.int .i64 pg,.pv (.str s),.int .i64 n] [] (QG dvD dvQ):=by
 refine dk Tryz.func108 ?_
 have c1:=QgU v hl pg
 (unfold Tryz.f108; refine rn trivial ?_)
 refine Qo c1 rfl ?_
 rintro e he
 by_cases h0:e=0
 rotate_left
 ·skip
  have F:=@h0
  refine rn F ?_
  exact⟨rfl,rfl,(Dv0,e),rfl,Jk _⟩
 obtain⟨q1,q2,q3⟩:=he h0
 subst h0
 have F:=trivial
 refine rn F ?_
 repeat' (first
  | with_reducible exact⟨⟩
  | (refine sG F ?_ ?_<;>intro hZ)
  | (refine sB F ?_ ?_<;>intro hZ))
 all_goals first
  | exact⟨rfl,rfl,(Dv0,_),rfl,Jk _⟩
  | skip
 obtain⟨i,rfl⟩:∃ i:Nat,pg=i:=⟨pg.toNat,by omega⟩
 obtain⟨m,rfl⟩:∃ m:Nat,n=m:=⟨n.toNat,by omega⟩
 have hi:i<v.ps.length:=by omega
 refine Qrz v hl ?_
 unfold Qqi cpD
 refine rn trivial ?_
 refine VCalls.neA ?_
 have hpos:0<v.ps.length:=by omega
 simp only[JQ,JM,DV.ne,Qtq hpos,Qot,QyQ]
 refine Qry 4 (Qn5 v.ps v.wr v.dead i hi (q1.2.2 i hi) s m (by omega) (by omega)) rfl ⟨rfl,Qs _ _ _⟩ (Qs _ _ _) rfl rfl (r2:=dvO 4 v.ps.length v.wr v.dead) rfl ?_
 unfold dvO
 have hle:∀ x,(v.ps.set i x).length=v.ps.length:=fun x=>Jo
 have F:=@hle
 refine rn F ?_
 exact⟨rfl,rfl,(⟨v.ps.set i (s.take m++(v.ps.getD i []).drop m),v.wr,v.dead⟩,0),rfl,by unfold dvQ; dsimp only; rw[hle]; exact q1.1.2⟩
def QsR(n:Int)(hn:n<=64):VCalls prog 64 [.int .i64 n] [] (QG (fun l:List (List UInt8)=>.pv (.sl (fz QdI l))) fun l=>l.length<=64):=by
 refine dk Tryz.func64 ?_
 (unfold Tryz.f64; refine rn trivial ?_)
 refine VLoop.nilOwn 3 9 1 rfl ?_
 refine rn trivial ?_
 refine Qi (fun s:{s:Nat×List (List UInt8) // s.1<=64/\s.2.length=s.1}=>⟨16,0,[(4,.int .i64 s.1.1),(3,.own 0 1 0 s.1.2.length),(0,.int .i64 n)],[⟨9,true,cells QdI s.1.2⟩]⟩) (fun s=>64-s.1.1) ⟨(0,[]),by simp⟩ (gc [0]) ?_
 rintro⟨⟨i,out⟩,hi,ho⟩
 dsimp only at hi ho |-
 have hb:(out.length+1)*16<=140737488355328:=by omega
 have hm:(((1:Nat):Int)*256<=281474976710656)=True:=eq_true (by decide)
 have hcw:=fun(hp:Qa) (k o n:Nat)=>Qgt (hp:=hp) (k:=k) (off:=o) (len:=n) QFO
 have hcv:∀ hp:Qa,QzJ hp 0 256 (some (cells Qfs (Jm 256 0)))=some (.pv (.str (Jm 256 0)),hp):=fun hp=>Qe9 (by simp)
 have F:=(Jd @hb (Jd @hm (Jd @hcw @hcv)))
 refine rn F ?_
 repeat' (first
  | with_reducible exact⟨⟩
  | (refine sB F ?_ ?_<;>intro hZ))
 all_goals first
  | exact⟨⟨(i+1,out++[Jm 256 0]),by dsimp only; omega,by simp; omega⟩,by dsimp only; omega,by dsimp only; rw[Jf]; exact(gc [3])⟩
  | exact⟨rfl,rfl,out,rfl,by omega⟩
  | skip
end
section
attribute [local go_sem] Qba
def QsG(v:Dv)(hl:v.ps.length<=100000)(pg:Int)(s:List UInt8)(hs0:s.length<=1000000):VCalls prog 103 [.agg v.d,.int .i64 pg,.pv (.str s)] [] (QG dvD dvQ):=by
 refine dk Tryz.func103 ?_
 have c1:=QgU v hl pg
 (unfold Tryz.f103; refine rn trivial ?_)
 refine Qo c1 rfl ?_
 rintro e he
 by_cases h0:e=0
 rotate_left
 ·skip
  have F:=@h0
  refine rn F ?_
  exact⟨rfl,rfl,(Dv0,e),rfl,Jk _⟩
 obtain⟨q1,q2,q3⟩:=he h0
 subst h0
 have F:=trivial
 refine rn F ?_
 repeat' (first
  | with_reducible exact⟨⟩
  | (refine sB F ?_ ?_<;>intro hZ))
 all_goals first
  | exact⟨rfl,rfl,(Dv0,_),rfl,Jk _⟩
  | skip
 obtain⟨i,rfl⟩:∃ i:Nat,pg=i:=⟨pg.toNat,by omega⟩
 have hi:i<v.ps.length:=by omega
 have hwr:=q1.2.1
 refine Qrz v hl ?_
 unfold Qqi cpD
 have F:=trivial
 refine rn F ?_
 refine Qi (fun _:Unit=>⟨166,0,[(11,.int .i64 0),(10,.pv (.slc [])),(9,.ptr 4 0),(6,.ptr 1 0),(3,.ptr 0 0),(2,.pv (.str s)),(1,.int .i64 i)],[⟨72,true,v.d⟩,⟨72,true,[.pv (.slc []),.int .i64 0,.pv (.slc []),.bool false,.pv (.slc [])]⟩,⟨9,true,cells QdI v.ps⟩,⟨3,true,[]⟩,⟨72,true,[.own 2 1 0 v.ps.length,.int .i64 (v.wr+1),.own 3 1 0 0,.bool v.dead,.pv (.slc [])]⟩]⟩) (fun _=>0) () (gc [0,1,4,5,7]) ?_
 intro _
 have F:=trivial
 refine rn F ?_
 refine Qi (fun _:Unit=>⟨166,0,[(13,.int .i64 0),(12,.bool false),(10,.pv (.slc [])),(9,.ptr 3 0),(6,.ptr 0 0),(2,.pv (.str s)),(1,.int .i64 i)],[⟨72,true,[.pv (.slc []),.int .i64 0,.pv (.slc []),.bool false,.pv (.slc [])]⟩,⟨9,true,cells QdI v.ps⟩,⟨3,true,[]⟩,⟨72,true,[.own 1 1 0 v.ps.length,.int .i64 (v.wr+1),.own 2 1 0 0,.bool v.dead,.pv (.slc [])]⟩]⟩) (fun _=>0) () (gc [1,2,3,4]) ?_
 intro _
 have F:=trivial
 refine rn F ?_
 refine VCalls.wkA (VCalls.neA ?_)
 have hpos:0<v.ps.length:=by omega
 refine rn trivial ?_
 simp only[JQ,JM,DV.ne,Qtq hpos,Qot,QyQ,DV.wk,DV.wk.go,PV.wk]
 refine Qry 1 (Qn5 v.ps (v.wr+1) v.dead i hi (q1.2.2 i hi) s 256 (by omega) (by omega)) rfl ⟨rfl,Qs _ _ _⟩ (Qs _ _ _) rfl rfl (r2:=dvO 1 v.ps.length (v.wr+1) v.dead) rfl ?_
 unfold dvO
 have hle:∀ x,(v.ps.set i x).length=v.ps.length:=fun x=>Jo
 have F:=@hle
 refine rn F ?_
 have hlL:=hle (s.take 256++(v.ps.getD i []).drop 256)
 generalize v.ps.set i (s.take 256++(v.ps.getD i []).drop 256)=L at *
 refine Qi (fun _:Unit=>⟨166,0,[(14,.int .i64 0),(10,.pv (.slc [])),(9,.ptr 2 0),(6,.ptr 0 0)],[⟨72,true,[.pv (.slc []),.int .i64 0,.pv (.slc []),.bool false,.pv (.slc [])]⟩,⟨9,true,cells QdI L⟩,⟨72,true,[.own 1 1 0 v.ps.length,.int .i64 (v.wr+1),.pv (.sl []),.bool v.dead,.pv (.sl [])]⟩]⟩) (fun _=>0) () (gc [0,1,3]) ?_
 intro _
 have F:=@hlL
 refine rn F ?_
 exact⟨rfl,rfl,(⟨L,v.wr+1,v.dead⟩,0),rfl,by unfold dvQ; have:=q1.1.2; dsimp only; omega⟩
end
section
attribute [local go_sem] Qba
def Qjz(n:Nat)(hn:n<=1000):VCalls prog 135 [.int .i64 n] [] (Ret (.pv (.str (Jm n 0)))):=by
 refine dd Tryz.func135 ?_
 have hm:(((1:Nat):Int)*(n:Int)<=281474976710656)=True:=eq_true (by omega)
 have hm2:((n:Int)*((1:Nat):Int)<=281474976710656)=True:=eq_true (by omega)
 have hcw:=fun(hp:Qa) (k o n:Nat)=>Qgt (hp:=hp) (k:=k) (off:=o) (len:=n) QFO
 have hcv:∀ hp:Qa,QzJ hp 0 n (some (cells Qfs (Jm n 0)))=some (.pv (.str (Jm n 0)),hp):=fun hp=>Qe9 (by simp)
 have hm3:((0:Int)<=(n:Int)/\(n:Int)<=(n:Int)/\(n:Int)<=9223372036854775807)=True:=eq_true ⟨by omega,by omega,by omega⟩
 (unfold Tryz.f135; refine rn (Jd @hm (Jd @hm2 (Jd @hm3 (Jd @hcw @hcv)))) ?_; try with_reducible exact⟨⟩)
def QwR:VCalls prog 233 [] [] (Ret (.pv (.str (Jm 256 0)))):=by
 refine dd Tryz.func233 ?_
 have c1:=Qjz 256 (by omega)
 (unfold Tryz.f233; refine rn trivial ?_)
 refine rn F ?_
 repeat' (first
  | with_reducible exact⟨⟩
  | refine vp F (c1) ?_)
def QB5(x:Pg)(i:Nat)(h:i<16):x.d[2+i*2+1]?=some (.pv (.str (x.cel i).data)):=by
 have:i=0\/i=1\/i=2\/i=3\/i=4\/i=5\/i=6\/i=7\/i=8\/i=9\/i=10\/i=11\/i=12\/i=13\/i=14\/i=15:=by omega
 rcases this with h | h | h | h | h | h | h | h | h | h | h | h | h | h | h | h<;>subst h<;>rfl
def QAY(h:QaS p=0)(i:Nat)(hi:i<16):(p.cel i).data.length<=12:=by
 have:=QuQ h
 unfold Pg.okB Pg.celB at this
 simp only[Jc,Jp,Ju] at this
 have:=this.2 i hi
 unfold Pg.celC Ce.okB at this
 simp only[Jc,decide_eq_true_eq] at this
 exact this.1.1
def QmV(p:Pg):VCalls prog 102 [.agg p.d] [] (QG siD fun a=>a.1.length<=256):=by
 refine dd Tryz.func102 ?_
 have c1:=Qdx p
 have hcel:=QAY (p:=p)
 by_cases hk:QaS p=0
 rotate_left
 ·generalize QaS p = k at *
  (unfold Tryz.f102; refine rn trivial ?_)
  have F:=@hk
  refine rn F ?_
  repeat' (first
   | with_reducible exact⟨⟩
   | refine vp F (c1) ?_)
  exact⟨rfl,rfl,([],k),rfl,Jk _⟩
 rw[hk] at c1
 have hcel:=hcel hk
 have c2:=QT [] (by simp) p.lsn 8 (by omega) (by omega)
 have c3:=QT (Qk [] p.lsn 8) (by rw[Qb]; simp) p.id 4 (by omega) (by omega)
 have hl0:(Qk (Qk [] p.lsn 8) p.id 4).length=12:=by rw[Qb,Qb]; rfl
 (unfold Tryz.f102; refine rn trivial ?_)
 have F:=trivial
 refine rn F ?_
 repeat' (first
  | with_reducible exact⟨⟩
  | refine vp F (c1) ?_
  | refine vp F (c2) ?_
  | refine vp F (c3) ?_)
 generalize Qk (Qk [] p.lsn 8) p.id 4=s0 at *
 refine Qi (fun s:{s:Nat×List UInt8 // s.1<=16/\s.2.length=12+13*s.1}=>⟨69,0,[(6,.int .i64 s.1.1),(5,.pv (.str s.1.2)),(1,.ptr 0 0)],[⟨159,true,p.d⟩]⟩) (fun s=>16-s.1.1) ⟨(0,s0),by simp; exact hl0⟩ (gc [0]) ?_
 rintro⟨⟨i,t⟩,hi,ht⟩
 dsimp only at hi ht |-
 have hg:=fun h:i<16=>QoU p i h
 have hg0:=fun h:i<16=>QuV p i h
 have hg1:=fun h:i<16=>QB5 p i h
 have hdl:=fun h:i<16=>hcel i h
 generalize p.cel i=c at *
 have d1:=fun n=>QT t (by omega) n 1 (by omega) (by omega)
 have hpl:=fun n=>Qb t n 1
 by_cases hi16:i<16
 ·have hdl:=hdl hi16
  have d2:=Qjz (12-c.data.length) (by omega)
  rw[show((12-c.data.length:Nat):Int)=12-(c.data.length:Int) by omega] at d2
  have hcd:(c.data++Jm (12-c.data.length) (0:UInt8)).length=12:=by rw[Jf,Jy]; omega
  have hadd:=fun n=>QcY (a:=Qk t n 1) (b:=c.data++Jm (12-c.data.length) (0:UInt8)) (by rw[hpl,hcd]; omega)
  have F:=(Jd @hg (Jd @hg0 (Jd @hg1 @hadd)))
  refine rn F ?_
  repeat' (first
   | with_reducible exact⟨⟩
   | (refine sB F ?_ ?_<;>intro hZ)
   | refine vp F (d1 _) ?_
   | refine vp F (d2) ?_
   | (refine Qc (id:=13) [0,1,2,3,4,5,6,7,8,9,10,11,12] [⟨[],[],13,[0,1,2,3,4,5,6,7,8,9,10,11],[14,15]⟩,⟨[],[],16,[],[]⟩] (by kernel_rfl) (by kernel_rfl) ?_; refine rn F ?_))
  ·exact⟨⟨(i+1,Qk t c.data.length 1++(c.data++Jm (12-c.data.length) 0)),by dsimp only; omega,by dsimp only; rw[Jf,Jf,Jy,hpl]; omega⟩,by dsimp only; omega,(gc [0])⟩
  ·exact⟨⟨(i+1,Qk t 255 1++(c.data++Jm (12-c.data.length) 0)),by dsimp only; omega,by dsimp only; rw[Jf,Jf,Jy,hpl]; omega⟩,by dsimp only; omega,(gc [0])⟩
 ·have hi:i = 16:=by omega
  subst hi
  have d2:=Qjz (244-t.length) (by omega)
  rw[show((244-t.length:Nat):Int)=244-(t.length:Int) by omega] at d2
  have hle:(t++Jm (244-t.length) (0:UInt8)).length=244:=by rw[Jf,Jy]; omega
  obtain⟨u,hu⟩:∃ u,t++Jm (244-t.length) (0:UInt8)=u:=⟨_,rfl⟩
  rw[hu] at hle
  have d3:=Qn3 u (by omega)
  have d4:=fun n=>QT u (by omega) n 4 (by omega) (by omega)
  have hu4:=fun n=>Qb u n 4
  have d5:=fun n m=>QT (Qk u n 4) (by rw[hu4]; omega) m 8 (by omega) (by omega)
  have F:=@hu
  refine rn F ?_
  repeat' (first
   | with_reducible exact⟨⟩
   | refine vp F (d2) ?_
   | refine vp F (d3) ?_
   | refine vp F (d4 _) ?_
   | refine vp F (d5 _ _) ?_)
  exact⟨rfl,rfl,(Qk (Qk u _ 4) _ 8,0),rfl,by dsimp only; rw[Qb,hu4]; omega⟩
end
section
attribute [local go_sem] Qba
@[go_sem] def piD(a:Pg×Int):DV:=.tup [.agg a.1.d,.int .i64 a.2]
def Qwu(n:Int):VCalls prog 209 [.int .i64 n] [] (Ret (.agg (Pg.d ⟨n,0,fun _=>Ce0⟩))):=by
 refine dd Tryz.func209 ?_
 (unfold Tryz.f209; refine rn trivial ?_)
 rfl
def QAr(s:List UInt8)(hs:s.length<=1000000):VCalls prog 208 [.pv (.str s)] [] (QG piD fun _=>True):=by
 refine dd Tryz.func208 ?_
 have c1:=QwR
 (unfold Tryz.f208; refine rn trivial ?_)
 by_cases hl:s.length=256
 rotate_left
 ·have hl':¬ (s.length:Int) = 256:=by omega
  have F:=@hl'
  refine rn F ?_
  exact⟨rfl,rfl,(Pg0,2),rfl,trivial⟩
 have c2:=fun(a k:Nat) (h:1<=k/\k<=8) (hh:a+k<=s.length)=>QiG s (by omega) a k h hh
 have g1:=c2 244 4 (by omega) (by omega)
 have g2:=c2 0 8 (by omega) (by omega)
 have g3:=c2 8 4 (by omega) (by omega)
 have c3:=fun u h=>Qn3 u h
 have c4:=QmV
 have F:=@hl
 refine rn F ?_
 repeat' (first
  | with_reducible exact⟨⟩
  | (refine sB F ?_ ?_<;>intro hZ)
  | refine vp F (c1) ?_
  | refine vp F (g1) ?_
  | refine vp F (g2) ?_
  | refine vp F (g3) ?_
  | (refine vp F (c3 _ (by simp; omega)) ?_)
  | (refine Qc (id:=5) [0,1,2,3,4] [⟨[],[],5,[0,1,2,3],[]⟩] (by kernel_rfl) (by kernel_rfl) ?_; refine rn F ?_))
 all_goals first
  | exact⟨rfl,rfl,(Pg0,_),rfl,trivial⟩
  | skip
 refine Qi (fun r:{r:Nat×Pg // r.1<=16}=>⟨95,0,[(7,.int .i64 r.1.1),(6,.ptr 1 0),(2,.ptr 0 0),(0,.pv (.str s))],[⟨159,true,Pg0.d⟩,⟨159,true,r.1.2.d⟩]⟩) (fun r=>16-r.1.1) ⟨(0,⟨IntKind.i64.wrap (Qe3 s 8 4),IntKind.i64.wrap (Qe3 s 0 8),fun _=>Ce0⟩),by simp⟩ (gc [0,1]) ?_
 rintro⟨⟨i,p⟩,hi⟩
 dsimp only at hi |-
 have hgs:i<16->s[12+i*13]?=some (s.getD (12+i*13) 0):=fun h=>by rw[Ja,JJ (by omega)]; rfl
 have hix:(12+(i:Int)*13).toNat=12+i*13:=by omega
 have hce:=fun(h:i<16) b d=>Qj9 p i h ⟨b,d⟩
 generalize hq:s.getD (12+i*13) 0=q at *
 have hqb:=q.toNat_lt
 have c5:=c4 p
 have F:=(Jd @hgs (Jd @hix (Jd @hce @hl)))
 refine rn F ?_
 repeat' (first
  | with_reducible exact⟨⟩
  | (refine sG F ?_ ?_<;>intro hZ)
  | (refine sB F ?_ ?_<;>intro hZ)
  | (refine Qo (c5) rfl ?_; rintro⟨t,e⟩ -; refine rn F ?_))
 all_goals first
  | exact⟨rfl,rfl,(Pg0,_),rfl,trivial⟩
  | exact⟨rfl,rfl,(p,0),rfl,trivial⟩
  | exact⟨⟨(i+1,p),by dsimp only; omega⟩,by dsimp only; omega,(gc [0,1])⟩
  | exact⟨⟨(i+1,p.setc i ⟨true,List.drop (12+(i:Int)*13+1).toNat (List.take (12+(i:Int)*13+1+q.toNat).toNat s)⟩),by dsimp only; omega⟩,by dsimp only; omega,(gc [0,1])⟩
  | skip
def QwF(s:List UInt8)(hs:s.length<=1000000)(n:Int):VCalls prog 161 [.pv (.str s),.int .i64 n] [] (QG piD fun a=>a.2=0->a.1.id=n):=by
 refine dd Tryz.func161 ?_
 have c1:=QAr s hs
 have c2:=Qwu n
 (unfold Tryz.f161; refine rn trivial ?_)
 refine rn F ?_
 repeat' (first
  | with_reducible exact⟨⟩
  | (refine sG F ?_ ?_<;>intro hZ)
  | (refine sB F ?_ ?_<;>intro hZ)
  | (refine Qo (c1) rfl ?_; rintro⟨p,e⟩ -; refine rn F ?_)
  | refine vp F (c2) ?_)
 all_goals first
  | exact⟨rfl,rfl,(Pg0,_),rfl,fun h=>by simp at h⟩
  | exact⟨rfl,rfl,(⟨n,0,fun _=>Ce0⟩,0),rfl,fun _=>rfl⟩
  | exact⟨rfl,rfl,(p,e),rfl,fun h=>by dsimp only at h |-; omega⟩
  | skip
def QwB(l:List Rw)(hl:l.length<=64)(n hd:Int)(s:List UInt8)(hs:s.length<=1000000):VCalls prog 116 [.agg [.pv (.sl (fz Qcc l))],.int .i64 n,.int .i64 hd,.pv (.str s)] [] (QG piD fun a=>a.2=0->a.1.id=n):=by
 refine dd Tryz.func116 ?_
 have c1:=QbF l (by omega)
 have c2:=QwF s hs n
 have hg:=fun h:n.toNat<l.length=>QlT l n.toNat h
 generalize ixB l=b at *
 (unfold Tryz.f116; refine rn trivial ?_)
 have F:=@hg
 refine rn F ?_
 repeat' (first
  | with_reducible exact⟨⟩
  | (refine sG F ?_ ?_<;>intro hZ)
  | (refine sB F ?_ ?_<;>intro hZ)
  | refine vp F (c1) ?_
  | (refine Qo (c2) rfl ?_; rintro⟨p,e⟩ hp; refine rn F ?_)
  | (refine Qc (id:=8) [0,1,2,3,4,5,6,7,8,9,10,11,12,13,14] [⟨[],[],15,[0,1,2,3,5,6,7,8,9,10,11,12,13],[]⟩] (by kernel_rfl) (by kernel_rfl) ?_; refine rn F ?_)
  | (refine Qc (id:=10) [0,1,2,3,4,5,6,7,8] [⟨[],[],9,[0,1,2,3,4,5,6,7],[]⟩] (by kernel_rfl) (by kernel_rfl) ?_; refine rn F ?_))
 all_goals first
  | exact⟨rfl,rfl,(Pg0,e),rfl,fun h=>absurd h (by assumption)⟩
  | (focus (refine⟨rfl,rfl,(Pg0,_),rfl,fun h=>?_⟩; simp at h; done))
  | exact⟨rfl,rfl,(p,0),rfl,fun _=>hp (by dsimp only; omega)⟩
  | skip
end
section
attribute [local go_sem] Qba
theorem QFN(e:E)(l:List E):(.pv (.lit (.int .i64 e.lsn))::.pv (.lit (.int .i64 e.kind))::.pv (.lit (.int .i64 e.tx))::.pv (.lit (.int .i64 e.ptx))::.pv (.lit (.int .i64 e.ppg))::.pv (.lit (.int .i64 e.ref))::.pv (.lit (.int .i64 e.c.pg))::.pv (.lit (.int .i64 e.c.sl))::.pv (.lit (.bool e.c.b.set))::.pv (.str e.c.b.data)::.pv (.lit (.bool e.c.a.set))::.pv (.str e.c.a.data)::.pv (.str e.blob)::cells Q5 l:List DV)=cells Q5 (e::l):=rfl
def QwH(e:E)(l:List E)(hl:l.length<=100000):VCalls prog 237 [.agg e.d,.pv (.sl (fz Q5 l))] [] (Ret (.pv (.sl (fz Q5 (e::l))))):=by
 refine dk Tryz.func237 ?_
 have hc:=QFN e l
 have hb:(1+l.length)*128<=140737488355328:=by omega
 have hlen:(e::l).length=1+l.length:=by simp; omega
 (unfold Tryz.f237; refine rn (Jd @hc (Jd @hb @hlen)) ?_; try with_reducible exact⟨⟩)
@[go_sem] def esD(a:List E×Int):DV:=.tup [.pv (.sl (fz Q5 a.1)),.int .i64 a.2]
def Qns{x:Lg}{n:Int}(h:(Qbr x n).2=0):lgB x=true/\x.f<=n/\n<=x.end_/\(Qbr x n).1.lsn=n/\(Qbr x n).1.okB=true:=by
 unfold Qbr at h |-
 split at h
 ·simp at h
 rename_i q1
 split at h
 ·simp at h
 rename_i q2
 rw[if_neg q1,if_neg q2]
 have hv:lgB x=true:=by simpa using q1
 have hv2:=hv
 unfold lgB at hv2
 simp only[Jc,Jp,Ju] at hv2
 have hd:=hv2.1
 simp only[decide_eq_true_eq,Lg.hd] at hd
 have:=hv2.2 (n-x.f).toNat (by simp only[Lg.end_] at q2; omega)
 unfold lgC at this
 simp only[Jc,decide_eq_true_eq] at this
 dsimp only
 exact⟨hv,by omega,by omega,by omega,this.2⟩
def QAW{e:E}(h:e.okB=true):0<=e.ppg/\e.ppg<e.lsn:=by
 unfold E.okB bef at h
 simp only[Jc,decide_eq_true_eq] at h
 omega
structure Ch7(x:Lg) where
 at_:Int
 out:List E
 ok:out=[]\/at_+out.length<=x.f+x.es.length
 nn:0<=at_
 le:out.length<=4097
def QwQ(x:Lg)(hx:x.es.length<=4096)(pg last above:Int):VCalls prog 234 [.agg x.c,.int .i64 pg,.int .i64 last,.int .i64 above] [] (QG esD fun a=>a.1.length<=4097):=by
 refine dk Tryz.func234 ?_
 have c1:=Qas x (by omega)
 have c2:=QiH x (by omega)
 have hok:=@Qns x
 (unfold Tryz.f234; refine rn trivial ?_)
 cases hv:lgB x
 ·rw [hv] at c1
  refine rn F ?_
  repeat' (first
   | with_reducible exact⟨⟩
   | refine vp F (c1) ?_)
  exact⟨rfl,rfl,([],26),rfl,Jk _⟩
 rw[hv] at c1
 have hd:=Q9 hv
 simp only[Lg.hd] at hd
 refine rn F ?_
 repeat' (first
  | with_reducible exact⟨⟩
  | (refine sG F ?_ ?_<;>intro hZ)
  | (refine sB F ?_ ?_<;>intro hZ)
  | refine vp F (c1) ?_)
 all_goals first
  | exact⟨rfl,rfl,([],1),rfl,Jk _⟩
  | skip
 refine VLoop.wkS ?_
 refine rn trivial ?_
 refine Qi (fun s:Ch7 x=>⟨62,0,[(11,.int .i64 s.at_),(10,.pv (.sl (fz Q5 s.out))),(4,.ptr 0 0),(3,.int .i64 above),(1,.int .i64 pg)],[⟨28,true,x.c⟩]⟩) (fun s=>s.at_.toNat) ⟨last,[],.inl rfl,by omega,Jk _⟩ (gc [0]) ?_
 rintro⟨at_,out,ok,nn,le⟩
 dsimp only
 have c3:=c2 at_
 have hok:=hok (n:=at_)
 generalize Qbr x at_=g at *
 have c4:=QbG g.1
 have c5:=QwH g.1 out (by omega)
 refine rn F ?_
 repeat' (first
  | with_reducible exact⟨⟩
  | (refine sG F ?_ ?_<;>intro hZ)
  | (refine sB F ?_ ?_<;>intro hZ)
  | refine vp F (c3) ?_
  | refine vp F (c4) ?_
  | refine vp F (c5) ?_
  | (refine Qc (id:=13) [0,1,3,4] [⟨[],[],2,[3,4],[]⟩,⟨[],[],5,[3,4],[]⟩,⟨[],[],6,[],[]⟩] (by kernel_rfl) (by kernel_rfl) ?_; refine rn F ?_))
 all_goals first
  | exact⟨rfl,rfl,([],_),rfl,Jk _⟩
  | exact⟨rfl,rfl,(out,0),rfl,le⟩
  | skip
 obtain⟨k1,k2,k3,k4,k5⟩:=hok (by omega)
 have hp:=QAW k5
 simp only[Lg.end_] at k3
 have ho:at_+out.length<=x.f+x.es.length:=by
  rcases ok with rfl | ok
  ·simp; omega
  ·exact ok
 exact⟨⟨g.1.ppg,g.1::out,.inr (by simp only[Jr]; omega),hp.1,by simp only[Jr]; omega⟩,by dsimp only; omega,(gc [0])⟩
def QDg(c:Ch):VCalls prog 166 [.agg c.d] [] (Ret (.agg (Ch.d ⟨c.pg,c.sl,c.a,c.b⟩))):=by
 refine dd Tryz.func166 ?_
 (unfold Tryz.f166; refine rn trivial ?_; try with_reducible exact⟨⟩)
def QAX{c:Ch}(h:c.okB=true):0<=c.sl/\c.sl<16:=by
 unfold Ch.okB at h
 simp only[Jc,decide_eq_true_eq] at h
 omega
def QEg{a b:Ce}(h:a.set=b.set/\a.data=b.data):a=b:=by
 obtain⟨_,_⟩:=a; obtain⟨_,_⟩:=b; obtain⟨rfl,rfl⟩:=h; rfl
def QEs(a c:Bool)(b d:List UInt8):QI [.pv (.lit (.bool a)),.pv (.str b)] [.pv (.lit (.bool c)),.pv (.str d)] [(0,0),(1,2)]=some (a==c&&b==d):=by simp[QI,Q7]
def Qk4 (p:Pg) (c:Ch):VCalls prog 167 [.agg p.d,.agg c.d] [] (QG piD fun a=>a.2 = 0->a.1.id = p.id/\p.cel c.sl.toNat = c.b):=by
 refine dd Tryz.func167 ?_
 have c1:=QsP c
 have hs:=QAX (c:=c)
 (unfold Tryz.f167; refine rn trivial ?_)
 cases hv:c.okB
 ·rw [hv] at c1
  refine rn F ?_
  repeat' (first
   | with_reducible exact⟨⟩
   | refine vp F (c1) ?_)
  exact⟨rfl,rfl,(Pg0,22),rfl,fun h=>by simp at h⟩
 rw[hv] at c1
 obtain⟨s1,s2⟩:=hs hv
 obtain⟨i,hi⟩:∃ i:Nat,c.sl=i:=⟨c.sl.toNat,by omega⟩
 have hi16:i<16:=by omega
 have hg:=QoU p i hi16
 have hce:=Qj9 p i hi16 c.a
 have F:=(Jd @hi (Jd @hg (Jd @hce @QEs)))
 refine rn F ?_
 repeat' (first
  | with_reducible exact⟨⟩
  | (refine sB F ?_ ?_<;>intro hZ)
  | refine vl F (c1) ?_
  | (refine Qc (id:=5) [0,1,2,3,4,5,6,7] [⟨[],[],8,[0,1,2,3,4,5,6],[]⟩] (by kernel_rfl) (by kernel_rfl) ?_; refine rn F ?_))
 all_goals first
  | (refine ⟨rfl,rfl,(p.setc i c.a,0),rfl,fun _=>⟨rfl,?_⟩⟩
     first
      | (rw[hi,Jj]; exact QEg (by assumption))
      | exact QEg (by assumption))
  | (focus (refine⟨rfl,rfl,(Pg0,_),rfl,fun h=>?_⟩; simp at h; done))
  | skip
def QwT(p:Pg)(e:E):VCalls prog 211 [.agg p.d,.agg e.d] [] (QG piD fun a=>a.2=0->a.1.id=p.id):=by
 refine dd Tryz.func211 ?_
 have c1:=Qcy e
 have c2:=QbG e
 have c3:=Qdx p
 have c4:=Qk4 p e.c
 generalize e.okB=b at *
 generalize QaS p=k at *
 (unfold Tryz.f211; refine rn trivial ?_)
 refine rn F ?_
 repeat' (first
  | with_reducible exact⟨⟩
  | (refine sG F ?_ ?_<;>intro hZ)
  | (refine sB F ?_ ?_<;>intro hZ)
  | refine vp F (c1) ?_
  | refine vp F (c2) ?_
  | refine vp F (c3) ?_
  | (refine Qo (c4) rfl ?_; rintro⟨q,er⟩ hq; refine rn F ?_))
 all_goals first
  | exact⟨rfl,rfl,(⟨q.id,e.lsn,q.cel⟩,0),rfl,fun _=>(hq (by dsimp only; omega)).1⟩
  | exact⟨rfl,rfl,(Pg0,er),rfl,fun h=>absurd h (by assumption)⟩
  | exact⟨rfl,rfl,(Pg0,k),rfl,fun h=>absurd h (by assumption)⟩
  | (focus (refine⟨rfl,rfl,(Pg0,_),rfl,fun h=>?_⟩; simp at h; done))
  | skip
def Qst(x:Lg)(hx:x.es.length<=4096)(p:Pg)(n:Int):VCalls prog 210 [.agg x.c,.agg p.d,.int .i64 n] [] (QG esD fun a=>a.1.length<=4097):=by
 refine dk Tryz.func210 ?_
 have c1:=Qas x (by omega)
 have c2:=Qdx p
 have c3:=QwQ x hx
 generalize lgB x=b at *
 generalize QaS p=k at *
 (unfold Tryz.f210; refine rn trivial ?_)
 refine rn F ?_
 repeat' (first
  | with_reducible exact⟨⟩
  | (refine sB F ?_ ?_<;>intro hZ)
  | refine vp F (c1) ?_
  | refine vp F (c2) ?_
  | (refine Qo (c3 _ _ _) rfl ?_; rintro⟨l,e⟩ hl; refine rn F ?_))
 all_goals first
  | exact⟨rfl,rfl,([],_),rfl,Jk _⟩
  | exact⟨rfl,rfl,(l,e),rfl,hl⟩
  | skip
@[go_sem] def QGM(a:Pg×Int×Int):DV:=.tup [.agg a.1.d,.int .i64 a.2.1,.int .i64 a.2.2]
def Qwr(x:Lg)(hx:x.es.length<=4096)(p:Pg)(n:Int):VCalls prog 162 [.agg x.c,.agg p.d,.int .i64 n] [] (QG QGM fun a=>a.2.2=0->a.1.id=p.id):=by
 refine dk Tryz.func162 ?_
 have c1:=Qst x hx p n
 (unfold Tryz.f162; refine rn trivial ?_)
 refine rn F ?_
 repeat' (first
  | with_reducible exact⟨⟩
  | (refine sB F ?_ ?_<;>intro hZ)
  | (refine Qo (c1) rfl ?_; rintro⟨l,e⟩ hl; refine rn F ?_))
 all_goals first
  | exact⟨rfl,rfl,(Pg0,0,e),rfl,fun h=>absurd h (by assumption)⟩
  | skip
 dsimp only at hl
 refine Qi (fun s:{s:Nat×Pg // s.1<=l.length/\s.2.id=p.id}=>⟨45,0,[(11,.int .i64 s.1.1),(9,.pv (.sl (fz Q5 l))),(6,.ptr 1 0),(4,.ptr 0 0)],[⟨159,true,s.1.2.d⟩,⟨159,true,Pg0.d⟩]⟩) (fun s=>l.length-s.1.1) ⟨(0,p),Jk _,rfl⟩ (gc [1,2]) ?_
 rintro⟨⟨i,q⟩,hi,hq⟩
 dsimp only at hi hq |-
 have hg:=fun h:i<l.length=>QeR l i h
 have c2:=QwT q (l.getD i E0)
 have F:=@hg
 refine rn F ?_
 repeat' (first
  | with_reducible exact⟨⟩
  | (refine sB F ?_ ?_<;>intro hZ)
  | (refine Qo (c2) rfl ?_; rintro⟨q2,e2⟩ hq2; refine rn F ?_)
  | (refine Qc (id:=7) [0,1,2,3,4] [⟨[],[],5,[1,2,3],[6,7,8]⟩,⟨[],[],9,[8],[]⟩,⟨[],[],10,[],[]⟩] (by kernel_rfl) (by kernel_rfl) ?_; refine rn F ?_))
 all_goals first
  | exact⟨rfl,rfl,(Pg0,0,e2),rfl,fun h=>absurd h (by assumption)⟩
  | exact⟨rfl,rfl,(q,l.length,0),rfl,fun _=>hq⟩
  | exact⟨⟨(i+1,q2),by dsimp only; omega,(hq2 (by dsimp only; omega)).trans hq⟩,by dsimp only; omega,(gc [0,1])⟩
  | skip
def QAl(x:Lg)(hx:x.es.length<=4096)(p:Pg)(n:Int):VCalls prog 117 [.agg x.c,.agg p.d,.int .i64 n] [] (QG piD fun a=>a.2=0->a.1.id=p.id):=by
 refine dd Tryz.func117 ?_
 have c1:=Qwr x hx p n
 (unfold Tryz.f117; refine rn trivial ?_)
 refine rn F ?_
 repeat' (first
  | with_reducible exact⟨⟩
  | (refine Qo (c1) rfl ?_; rintro⟨q,m,e⟩ hq; refine rn F ?_))
 exact⟨rfl,rfl,(q,e),rfl,hq⟩
end
section
attribute [local go_sem] Qba
structure Sv where
 k:Kn
 v:Dv
@[go_sem] def Sv.d(s:Sv):List DV:=[.int .i64 s.k.pg,.int .i64 s.k.nx,.int .i64 s.k.lg.f,.pv (.sl (fz Q5 s.k.lg.es)),.int .i64 s.k.lg.d,.int .i64 s.k.pl.size,.pv (.sl (fz Qcv s.k.pl.fs)),.int .i64 s.k.pl.hand,.pv (.sl (fz Qaq s.k.lk.held)),.pv (.sl (fz Qaq s.k.lk.wait)),.pv (.sl (fz Qaf s.k.tx)),.pv (.sl (fz Qcc s.k.ix)),.pv (.sl (fz QcM s.k.la)),.pv (.sl (fz QdI s.v.ps)),.int .i64 s.v.wr,.pv (.sl []),.bool s.v.dead,.pv (.sl [])]
def Sv0:Sv:=⟨Kn0,Dv0⟩
def Sv.sm(s:Sv):Prop:=s.k.sm/\s.v.ps.length<=64
def Qdk:Sv0.sm:=⟨QbW,Jk _⟩
@[go_sem] def svD(a:Sv×Int):DV:=.tup [.agg a.1.d,.int .i64 a.2]
def Zv:List DV:=[.int .i64 0,.int .i64 0,.int .i64 0,.pv (.slc []),.int .i64 0,.int .i64 0,.pv (.slc []),.int .i64 0,.pv (.slc []),.pv (.slc []),.pv (.slc []),.pv (.slc []),.pv (.slc []),.pv (.slc []),.int .i64 0,.pv (.slc []),.bool false,.pv (.slc [])]
def QqR(k:Kn)(x:Pg)(a:Sv×Int):Prop:=a.1.sm/\(a.2=0->∃ e',AddOk k (QF2 x.id x.lsn) e'/\a.1.k.tx=k.tx/\(0<=Qbn k.pl x.id->a.1.k=k.wrt e'/\(QaR k.pl x.id x.lsn).2=0))
def Qim(hq:QqR k x a)(h:a.2=0)(hp:plB k.pl=true)(hi:i<k.pl.fs.length)(hid:idF k.pl.fs x.id=i)(hx:(k.pl.fs.getD i Fm0).pg=x)(hu:(k.pl.fs.getD i Fm0).dirty=true):Str 0 k a.1.k/\a.1.k.pl=(QaR k.pl x.id x.lsn).1/\a.1.k.tx=k.tx:=by
 obtain⟨e',ha,h1,h2⟩:=hq.2 h
 have hf:Qbn k.pl x.id=i:=by unfold Qbn; rw[if_pos hp]; exact hid
 obtain⟨h3,h4⟩:=h2 (by rw[hf]; omega)
 obtain⟨_,_,s3,s4,_⟩:=ha.2.1
 refine⟨by rw[h3]; exact .one (.wrt ha rfl ⟨i,hi,hid,by rw[hx]; rfl,h4,hu⟩),?_,h1⟩
 rw[h3]
 unfold Kn.wrt
 rw[s3,s4]
 rfl
def Qn2 (s:Sv) (hs:s.v.ps.length<=64) (k:Kn) (hk:k.sm) (x:Pg):VCalls prog 83 [.agg s.d,.agg k.d,.agg x.d] [] (QG svD (QqR k x)):=by
 refine dk Tryz.func83 ?_
 have c1:=QmV x
 have c2:=fun(t:List UInt8) (h:t.length<=256)=>QsG s.v (by omega) x.id t (by omega)
 have c3:=Qpw k hk x.id x.lsn
 (unfold Tryz.f83; refine rn trivial ?_)
 refine rn F ?_
 repeat' (first
  | with_reducible exact⟨⟩
  | (refine sB F ?_ ?_<;>intro hZ)
  | (refine Qo (c1) rfl ?_; rintro⟨t,e1⟩ ht; refine rn F ?_)
  | (refine Qo (c2 t ht) rfl ?_; rintro⟨v1,e2⟩ hv; refine rn F ?_)
  | (refine Qo (c3) rfl ?_; rintro⟨k1,e3⟩ hq; refine rn F ?_))
 all_goals first
  | exact⟨rfl,rfl,(Sv0,e2),rfl,Qdk,fun h=>absurd h (by assumption)⟩
  | exact⟨rfl,rfl,(Sv0,e3),rfl,Qdk,fun h=>absurd h (by assumption)⟩
  | (have q:=hq.2 (by dsimp only; omega)
     exact⟨rfl,rfl,(⟨k1,v1⟩,0),rfl,⟨hq.1,hv⟩,fun _=>q⟩)
  | skip
def Qde(l:List Fm):Nat:=l.countP (·.dirty)
def QiY(l:List Fm):Qde (l.map Fm.clr)=Qde l:=by
 unfold Qde; rw[List.countP_map]; rfl
def SameF.dirty(h:SameF l m):Qde m=Qde l:=by
 rw[<- QiY m,<- QiY l,show m.map Fm.clr=l.map Fm.clr from h]
def Qqc(l:List Fm)(i:Nat)(h:i<l.length)(hu:(l.getD i Fm0).dirty=true)(f:Fm)(hf:f.dirty=false):Qde (l.set i f)<Qde l:=by
 unfold Qde
 rw[List.countP_set h]
 rw[Qd l i h] at hu
 have:0<l.countP (·.dirty):=List.countP_pos_iff.2 ⟨l[i],Jg h,hu⟩
 simp only[hu,hf,if_true]
 simp
 omega
def Qqk(hp:plB p=true)(hi:i<p.fs.length)(h1:idF p.fs x.id=i)(h2:(p.fs.getD i Fm0).pg=x)(h3:(p.fs.getD i Fm0).dirty=true):Qde (QaR p x.id x.lsn).1.fs<Qde p.fs:=by
 unfold QaR
 rw[if_neg (by rw[hp]; decide),h1,if_neg (by omega),Jj,h2,if_neg (by omega),if_neg (by rw[h3]; decide)]
 refine Qqc _ _ hi h3 _ ?_
 unfold Qe0
 rw[h2,if_pos rfl]
def stQ(s:Sv)(a:Sv×Int):Prop:=a.1.sm/\(a.2=0->Str 0 s.k a.1.k/\a.1.k.tx=s.k.tx)
structure Rm(s0:Sv) where
 s:Sv
 sm:s.sm
 ev:Str 0 s0.k s.k
 tx:s.k.tx=s0.k.tx
def Qwp(s:Sv)(hs:s.sm):VCalls prog 113 [.agg s.d] [] (QG svD (stQ s)):=by
 refine dk Tryz.func113 ?_
 (unfold Tryz.f113; refine rn trivial ?_)
 refine Qi (fun r:Rm s=>⟨36,0,[(2,.ptr 1 0),(1,.ptr 0 0)],[⟨74,true,r.s.d⟩,⟨74,true,Zv⟩]⟩) (fun r=>Qde r.s.k.pl.fs) ⟨s,hs,Str.refl _,rfl⟩ (gc [0,1]) ?_
 rintro⟨s1,sm,ev,tx⟩
 dsimp only
 have c1:=QAk s1.k sm.1
 have c2:=fun k hk x=>Qn2 s1 sm.2 k hk x
 unfold Zv
 refine rn F ?_
 repeat' (first
  | with_reducible exact⟨⟩
  | (refine sB F ?_ ?_<;>intro hZ)
  | (refine Qo (c1) rfl ?_; rintro⟨k1,x,b,e⟩ hq; refine rn F ?_)
  | (refine Qo (c2 k1 hq.1 x) rfl ?_; rintro⟨s2,e2⟩ hq2; refine rn F ?_))
 ·exact⟨rfl,rfl,(Sv0,e),rfl,Qdk,fun h=>absurd h (by assumption)⟩
 ·have q:=hq.2 (by dsimp only; omega)
  exact⟨rfl,rfl,(⟨k1,s1.v⟩,0),rfl,⟨hq.1,sm.2⟩,fun _=>⟨ev.trans q.1,q.2.1.trans tx⟩⟩
 ·exact⟨rfl,rfl,(Sv0,e2),rfl,Qdk,fun h=>absurd h (by assumption)⟩
 ·have q:=hq.2 (by dsimp only; omega)
  obtain⟨p1,p2,i,p3,p4,p5,p6⟩:=q.2.2 (by dsimp only; first | assumption | simp_all)
  dsimp only at p1 p2 p3 p4 p5 p6
  obtain⟨r0,r1,r2⟩:=Qim hq2 (by dsimp only; omega) p1 p3 p4 p5 p6
  have hlt:=Qqk p1 p3 p4 p5 p6
  rw[p2.dirty] at hlt
  dsimp only at r0 r1 r2
  exact⟨⟨s2,hq2.1,(ev.trans q.1).trans r0,r2.trans (q.2.1.trans tx)⟩,by dsimp only; rw[r1]; exact hlt,(gc [0,1])⟩
def Qy4(s:Sv)(n:Int)(a:Sv×Int):Prop:=a.1.sm/\(a.2=0->Str 0 s.k a.1.k/\a.1.k.tx=s.k.tx/\0<=idF a.1.k.pl.fs n)
def Qex (s:Sv) (hs:s.sm) (n:Int):VCalls prog 88 [.agg s.d,.int .i64 n] [] (QG svD (Qy4 s n)):=by
 refine dk Tryz.func88 ?_
 have c1:=QaW s.k hs.1
 have c2:=Qcz s.k.pl (Je hs.1.2.1 (by decide)) n
 have c3:=Qwp s hs
 have c4:=fun(t:Sv) (h:t.sm)=>QwL t.v (Je h.2 (by decide)) n
 have c5:=fun(t:Sv) (h:t.sm)=>QmZ t.k h.1 n
 have c6:=fun(t:Sv) (h:t.sm) (hd:Int) (b:List UInt8) (hb:b.length<=1000000)=>QwB t.k.ix h.1.2.2.2.2.1 n hd b hb
 have c7:=fun(t:Sv) (h:t.sm) (p:Pg) (hd:Int)=>QAl t.k.lg h.1.1 p hd
 have c8:=fun(t:Sv) (h:t.sm) (p:Pg)=>Qsb t.k h.1 p
 have hfi:0<=Qbn s.k.pl n->0<=idF s.k.pl.fs n:=fun h=>by unfold Qbn at h; split at h<;>omega
 have e0:∀ e,e≠0->Qy4 s n (Sv0,e):=fun e h=>⟨Qdk,fun h2=>absurd h2 h⟩
 generalize Qbn s.k.pl n=fi at *
 (unfold Tryz.f88; refine rn trivial ?_)
 refine rn F ?_
 repeat' (first
  | with_reducible exact⟨⟩
  | (refine sG F ?_ ?_<;>intro hZ)
  | (refine sB F ?_ ?_<;>intro hZ)
  | (refine Qo (c1) rfl ?_; rintro b -; refine rn F ?_)
  | refine vp F (c2) ?_
  | (refine Qo (c3) rfl ?_; rintro⟨s1,e1⟩ hq1; refine rn F ?_)
  | (refine Qo (c4 s1 hq1.1) rfl ?_; rintro⟨t,e2⟩ ht; refine rn F ?_)
  | (refine Qo (c5 s1 hq1.1) rfl ?_; rintro hd -; refine rn F ?_)
  | (refine Qo (c6 s1 hq1.1 hd t (by have:=ht (by dsimp only; omega); dsimp only at this; omega)) rfl ?_; rintro⟨p,e3⟩ hp; refine rn F ?_)
  | (refine Qo (c7 s1 hq1.1 p hd) rfl ?_; rintro⟨p2,e4⟩ hp2; refine rn F ?_)
  | (refine Qo (c8 s1 hq1.1 p2) rfl ?_; rintro⟨k2,e5⟩ hq5; refine rn F ?_))
 all_goals first
  | exact⟨rfl,rfl,(s,0),rfl,hs,fun _=>⟨Str.refl _,rfl,hfi (by omega)⟩⟩
  | exact⟨rfl,rfl,(Sv0,_),rfl,e0 _ (by assumption)⟩
  | exact⟨rfl,rfl,(Sv0,15),rfl,e0 _ (by decide)⟩
  | exact⟨rfl,rfl,(Sv0,1),rfl,e0 _ (by decide)⟩
  | (have q1:=hq1.2 (by dsimp only; omega)
     have q5:=hq5.2 (by dsimp only; omega)
     have i3:=hp (by dsimp only; omega)
     have i4:=hp2 (by dsimp only; omega)
     dsimp only at q1 q5 i3 i4
     exact⟨rfl,rfl,(⟨k2,s1.v⟩,0),rfl,⟨hq5.1,hq1.1.2⟩,fun _=>⟨q1.1.trans q5.1,q5.2.2.1.trans q1.2,by dsimp only; have:=q5.2.2.2; rw[i4,i3] at this; exact this⟩⟩)
  | skip
end
section
attribute [local go_sem] Qba
@[go_sem] def tiD(a:Tx×Int):DV:=.tup [.agg a.1.d,.int .i64 a.2]
@[go_sem] def ebD(a:E×Bool):DV:=.tup [.agg a.1.d,.bool a.2]
def QrG(h:0<=idT l a):(Qa7 l a).id=a:=by
 rcases QB l a with hn | ⟨i,hi,hid,he⟩
 ·omega
 ·rw[Qd1 hid,Qd l i hi]; exact he
def QDc(k:Kn)(tx:Int)(a:Tx×Int):Prop:=a.1.l.length<=100000/\(a.2=0->VK k/\0<=idT k.tx tx/\a.1=Qa7 k.tx tx/\a.1.st≠1)
def Qdt(k:Kn)(h:k.sm)(tx:Int):VCalls prog 120 [.agg k.d,.int .i64 tx] [] (QG tiD (QDc k tx)):=by
 refine dk Tryz.func120 ?_
 have c1:=QaW k h
 obtain⟨h1,h2,h3,h4,h5,h6⟩:=h
 have c2:=Qb3 k.tx (Je h4.1 (by decide)) tx
 have e0:∀ e,e≠0->QDc k tx (Tx0,e):=fun e h=>⟨by simp[Tx0],fun h2=>absurd h2 h⟩
 rcases QB k.tx tx with hn | ⟨i,hil,hid,_⟩
 ·rw [hn] at c2
  (unfold Tryz.f120; refine rn trivial ?_)
  refine rn F ?_
  repeat' (first
   | with_reducible exact⟨⟩
   | (refine sB F ?_ ?_<;>intro hZ)
   | (refine Qo (c1) rfl ?_; rintro b -; refine rn F ?_)
   | refine vp F (c2) ?_)
  all_goals exact⟨rfl,rfl,(Tx0,_),rfl,e0 _ (by decide)⟩
 rw[hid] at c2
 have hg:=Qea k.tx i hil
 have ht:(k.tx.getD i Tx0).l.length<=100000:=by rw[Qd _ _ hil]; exact(h4.2 _ (Jg hil)).1
 have he:Qa7 k.tx tx=k.tx.getD i Tx0:=by unfold Qa7; rw[hid]; rfl
 (unfold Tryz.f120; refine rn trivial ?_)
 have F:=@hg
 refine rn F ?_
 repeat' (first
  | with_reducible exact⟨⟩
  | (refine sB F ?_ ?_<;>intro hZ)
  | (refine Qo (c1) rfl ?_; rintro b hb; refine rn F ?_)
  | refine vp F (c2) ?_)
 all_goals first
  | exact⟨rfl,rfl,(k.tx.getD i Tx0,0),rfl,ht,fun _=>⟨hb (by assumption),by omega,he.symm,by assumption⟩⟩
  | exact⟨rfl,rfl,(Tx0,15),rfl,e0 _ (by decide)⟩
  | exact⟨rfl,rfl,(Tx0,16),rfl,e0 _ (by decide)⟩
  | skip
def Qng(l:List Tx)(a:Int):Int:=(Qa7 l a).l.getD ((Qa7 l a).l.length-1) 0
def QjW(l:List Tx)(g:Lg)(a:Int):E:=(Qbr g (Qng l a)).1
def QAZ(k:Kn)(tx:Int)(a:E×Bool):Prop:=a.2=true->VK k/\a.1=QjW k.tx k.lg tx/\(Qbr k.lg (Qng k.tx tx)).2=0/\Qi8 k (Qa7 k.tx tx) a.1
def QAv(k:Kn)(h:k.sm)(tx:Int):VCalls prog 122 [.agg k.d,.int .i64 tx] [] (QG ebD (QAZ k tx)):=by
 refine dk Tryz.func122 ?_
 have c1:=Qdt k h tx
 obtain⟨h1,h2,h3,h4,h5,h6⟩:=h
 have c2:=QiH k.lg (by omega)
 have e0:QAZ k tx (E0,false):=fun h=>by cases h
 (unfold Tryz.f122; refine rn trivial ?_)
 refine Qo c1 rfl ?_
 rintro⟨t,e⟩ ⟨ht,hq⟩
 dsimp only at ht hq
 have hg:=fun h:t.l.length-1<t.l.length=>QY t.l (t.l.length-1) h
 have F:=@hg
 refine rn F ?_
 repeat' (first
  | with_reducible exact⟨⟩
  | (refine sG F ?_ ?_<;>intro hZ)
  | (refine sB F ?_ ?_<;>intro hZ)
  | refine vp F (c2 _) ?_
  | (refine Qc (id:=2) [0,1,2,3,4,5,6,7,8,9,10,11,12,13,14,15,16,17,18,19,20] [] (by kernel_rfl) (by kernel_rfl) ?_; refine rn F ?_)
  | (refine Qc (id:=4) [0,1,2,3,4,5,6,7,8,9] [⟨[14],[],10,[0,2,3,4,5,6,7,8],[11,12,13]⟩,⟨[14],[14],15,[13],[]⟩,⟨[],[],16,[],[]⟩] (by kernel_rfl) (by kernel_rfl) ?_; refine rn F ?_))
 all_goals first
  | exact⟨rfl,rfl,(E0,false),rfl,e0⟩
  | skip
 obtain⟨v,_,rfl,_⟩:=hq (by first | omega | simp_all)
 have hpos:0<(Qa7 k.tx tx).l.length:=by omega
 exact⟨rfl,rfl,((Qbr k.lg (Qng k.tx tx)).1,_),rfl,fun h=>by
  have h0:(Qbr k.lg (Qng k.tx tx)).2=0:=by simpa [Qng] using h
  exact⟨v,rfl,h0,(Qa7 k.tx tx).l.length-1,by omega,h0,rfl,fun j h1 h2=>by omega⟩⟩
structure OfS(k:Kn)(t:Tx)(pg sl:Int) where
 i:Nat
 hi:i<=t.l.length
 no:∀ j,i<=j->j<t.l.length->(Qbr k.lg (t.l.getD j 0)).2=0->¬ ((Qbr k.lg (t.l.getD j 0)).1.c.pg=pg/\(Qbr k.lg (t.l.getD j 0)).1.c.sl=sl)
def QFq (k:Kn) (h:k.sm) (t:Tx) (ht:t.l.length<=100000) (pg sl:Int):VCalls prog 215 [.agg k.d,.agg t.d,.agg [.int .i64 pg,.int .i64 sl],.int .i64 t.l.length] [] (QG ebD fun a=>a.2 = true->Qi8 k t a.1/\a.1.c.pg = pg):=by
 refine dk Tryz.func215 ?_
 obtain⟨h1,h2,h3,h4,h5,h6⟩:=h
 have c2:=QiH k.lg (by omega)
 (unfold Tryz.f215; refine rn trivial ?_)
 refine Qi (fun s:OfS k t pg sl=>⟨50,0,[(10,.int .i64 ((s.i:Int)-1)),(8,.ptr 3 0),(6,.ptr 2 0),(5,.ptr 1 0),(4,.ptr 0 0)],[⟨41,true,k.d⟩,⟨201,true,t.d⟩,⟨180,true,[.int .i64 pg,.int .i64 sl]⟩,⟨57,true,E0.d⟩]⟩) (fun s=>s.i) ⟨t.l.length,JT _,fun j h1 h2=>by omega⟩ (gc [0,1,2,3]) ?_
 rintro⟨i,hi,no⟩
 dsimp only
 have hg:=fun h:i-1<t.l.length=>QY t.l (i-1) h
 have c3:=c2 (t.l.getD (i-1) 0)
 have hL:=fun(a1:i-1<t.l.length) (a2:(Qbr k.lg (t.l.getD (i-1) 0)).2=0) (a3:(Qbr k.lg (t.l.getD (i-1) 0)).1.c.pg=pg) (a4:(Qbr k.lg (t.l.getD (i-1) 0)).1.c.sl=sl)=>(⟨i-1,a1,a2,rfl,fun j h1 h2 h3=>by rw[a3,a4]; exact no j (by omega) h2 h3⟩:Qi8 k t (Qbr k.lg (t.l.getD (i-1) 0)).1)
 have hN:=fun(a:(Qbr k.lg (t.l.getD (i-1) 0)).2=0->¬ ((Qbr k.lg (t.l.getD (i-1) 0)).1.c.pg=pg/\(Qbr k.lg (t.l.getD (i-1) 0)).1.c.sl=sl))=>(fun j h1 h2 h3=>by
  rcases JZ j i with h4 | h4
  ·obtain rfl:j = i - 1:=by omega
   exact a h3
  ·exact no j h4 h2 h3:∀ j,i-1<=j->j<t.l.length->(Qbr k.lg (t.l.getD j 0)).2=0->¬ ((Qbr k.lg (t.l.getD j 0)).1.c.pg=pg/\(Qbr k.lg (t.l.getD j 0)).1.c.sl=sl))
 generalize hgE:Qbr k.lg (t.l.getD (i-1) 0)=g at *
 have F:=@hg
 refine rn F ?_
 repeat' (first
  | with_reducible exact⟨⟩
  | (refine sG F ?_ ?_<;>intro hZ)
  | (refine sB F ?_ ?_<;>intro hZ)
  | refine vp F (c3) ?_
  | (refine Qc (id:=4) [0,1,2,3,4,5,6] [⟨[11],[],7,[0,2,3,4,5],[8,9,10]⟩,⟨[11],[11],12,[10],[]⟩,⟨[],[],13,[],[]⟩] (by kernel_rfl) (by kernel_rfl) ?_; refine rn F ?_))
 all_goals first
  | exact⟨rfl,rfl,(E0,false),rfl,fun h=>by cases h⟩
  | exact⟨rfl,rfl,(g.1,true),rfl,fun _=>⟨hL (by omega) (by omega) (by omega) (by omega),by dsimp only; omega⟩⟩
  | (refine ⟨⟨i - 1,by omega,hN (by omega)⟩,by dsimp only; omega,?_⟩
     dsimp only
     rw[show((i-1:Nat):Int)-1=(i:Int)-1-1 by omega]
     exact(gc [0,1,2,3]))
  | skip
def Qk5 (k:Kn) (h:k.sm) (tx pg sl:Int):VCalls prog 169 [.agg k.d,.int .i64 tx,.agg [.int .i64 pg,.int .i64 sl]] [] (QG ebD fun a=>a.2 = true->Qi8 k (Qa7 k.tx tx) a.1/\a.1.c.pg = pg):=by
 refine dk Tryz.func169 ?_
 have c1:=Qdt k h tx
 (unfold Tryz.f169; refine rn trivial ?_)
 refine Qo c1 rfl ?_
 rintro⟨t,e⟩ ⟨ht,hq⟩
 have c2:=QFq k h t ht
 refine rn F ?_
 repeat' (first
  | with_reducible exact⟨⟩
  | (refine sG F ?_ ?_<;>intro hZ)
  | (refine sB F ?_ ?_<;>intro hZ)
  | (refine Qo (c2 _ _) rfl ?_; rintro⟨y,b⟩ hb; refine rn F ?_))
 all_goals first
  | exact⟨rfl,rfl,(E0,false),rfl,fun h=>by cases h⟩
  | (have he:=(hq (by first | omega | (dsimp only; omega) | simp_all)).2.2.1
     dsimp only at he
     rw[he] at hb
     exact⟨rfl,rfl,(y,b),rfl,hb⟩)
  | skip
def QCR(k:Kn)(pg:Int)(a:Kn×Rs):Prop:=a.1.sm/\(a.2.st=3->a.1=k/\a.2.pg=pg/\idF k.pl.fs pg<0)/\(a.2.st≠3->a.2.st≠5->a.2.st=1/\Str 0 k a.1/\k.lg.es.length<a.1.lg.es.length)/\(a.2.st=5->a.2.er≠0)
def Qz7(k:Kn)(e:E):k.lg.es.length<(k.set e).lg.es.length:=by
 unfold Kn.set Kn.add; simp
def Qr5 (k:Kn) (h:k.sm) (hv:VK k) (t:Tx) (hid:0<=idT k.tx t.id) (hta:Qa7 k.tx t.id = t) (hst:t.st ≠ 1) (e:E) (hla:Qi8 k t e):VCalls prog 123 [.agg k.d,.agg t.d,.agg e.d] [] (QG krD (QCR k e.c.pg)):=by
 refine dk Tryz.func123 ?_
 have h':=h
 obtain⟨h1,h2,h3,h4,h5,h6⟩:=h
 have c1:=QgX k.pl (by omega) e.c.pg
 have hn:=QtW (a:=e.c.pg) hv.2.2.2.1
 have c2:=QDg e.c
 generalize hgg:QeP k.pl e.c.pg=g at *
 have c3:=Qk4 g.1 ⟨e.c.pg,e.c.sl,e.c.a,e.c.b⟩
 have c4:=QyE k h' ⟨0,2,t.id,0,0,e.lsn,⟨e.c.pg,e.c.sl,e.c.a,e.c.b⟩,[]⟩ (.inr rfl)
 have hf:∀ er,er≠0->QCR k e.c.pg (k,QaA er):=fun er hr=>⟨h',fun h=>by simp[QaA] at h,fun _ h=>absurd rfl h,fun _=>hr⟩
 (unfold Tryz.f123; refine rn trivial ?_)
 refine rn F ?_
 repeat' (first
  | with_reducible exact⟨⟩
  | (refine sB F ?_ ?_<;>intro hZ)
  | refine vp F (c1) ?_
  | refine vp F (c2) ?_
  | (refine Qo (c3) rfl ?_; rintro⟨p1,e1⟩ hp1; refine rn F ?_)
  | (refine Qo (c4) rfl ?_; rintro⟨k1,e2⟩ hq; refine rn F ?_)
  | refine vp F (Qae _) ?_
  | (refine Qo (Qk5 k1 hq.1 _ _ _) rfl ?_; rintro⟨y,b⟩ -; refine rn F ?_)
  | (refine Qo (QsI k1.lk (Je hq.1.2.2.1 (by decide)) _ _ _) rfl ?_; rintro u hu; refine rn F ?_)
  | (refine Qc (id:=3) [0,1,2,3,4] [⟨[],[],5,[1,2,3,4],[]⟩,⟨[],[],6,[],[]⟩] (by kernel_rfl) (by kernel_rfl) ?_; refine rn F ?_)
  | (refine Qc (id:=7) [0,1] [⟨[],[],2,[0],[]⟩,⟨[],[],3,[1],[]⟩,⟨[],[],4,[],[]⟩] (by kernel_rfl) (by kernel_rfl) ?_; refine rn F ?_)
  | (refine Qc (id:=10) [0,1] [⟨[],[],2,[0],[]⟩,⟨[],[],3,[1],[]⟩,⟨[],[],4,[],[]⟩] (by kernel_rfl) (by kernel_rfl) ?_; refine rn F ?_)
  | (refine Qc (id:=16) [0,1,2,3] [⟨[],[],4,[1,2,3],[]⟩,⟨[],[],5,[],[]⟩] (by kernel_rfl) (by kernel_rfl) ?_; refine rn F ?_))
 all_goals first
  | exact⟨rfl,rfl,(k,⟨3,0,e.c.pg,Ce0,0⟩),rfl,h',fun _=>⟨rfl,rfl,hn (by first | assumption | simp_all)⟩,fun h=>absurd rfl h,fun h=>by simp at h⟩
  | exact⟨rfl,rfl,(k,QaA _),rfl,hf _ (by assumption)⟩
  | skip
 all_goals
  obtain⟨e',q1,q2,q3⟩:=hq.2.1 (by dsimp only; omega)
  dsimp only at q3
  have qs:Str 0 k k1:=by
   rw[q3]
   exact .one (.undo q1 rfl ⟨hid,fun h=>by simp at h,fun _=>⟨by dsimp only; rw[hta]; exact hst,e,by dsimp only; rw[hta]; exact hla,rfl,rfl⟩,by dsimp only; rw[hgg]; first | assumption | simp_all,by dsimp only; rw[hgg]; exact(hp1 (by dsimp only; omega)).2⟩ q2)
  have ql:k.lg.es.length<k1.lg.es.length:=by rw[q3]; exact Qz7 k e'
 all_goals first
  | exact⟨rfl,rfl,(k1,⟨1,t.id,0,Ce0,0⟩),rfl,hq.1,fun h=>by simp at h,fun _ _=>⟨rfl,qs,ql⟩,fun h=>by simp at h⟩
  | (obtain ⟨r1,r2,r3,r4,r5,r6⟩:=hq.1
     exact⟨rfl,rfl,(⟨k1.pg,k1.nx,k1.lg,k1.pl,u,k1.tx,k1.ix,k1.la⟩,⟨1,t.id,0,Ce0,0⟩),rfl,⟨r1,r2,Je hu r3,r4,r5,r6⟩,fun h=>by simp at h,fun _ _=>⟨rfl,qs.step (.lock u),ql⟩,fun h=>by simp at h⟩)
  | skip
end
section
attribute [local go_sem] Qba
def QC0(k:Kn)(tx:Int)(a:Kn×Rs):Prop:=a.1.sm/\(a.2.st=3->VK k/\a.1=k/\a.2.pg=(QjW k.tx k.lg tx).c.pg/\(Qbr k.lg (Qng k.tx tx)).2=0/\idF k.pl.fs a.2.pg<0)/\(a.2.st≠3->a.2.st≠5->Str 0 k a.1/\k.lg.es.length<a.1.lg.es.length)/\(a.2.st=5->a.2.er≠0)
def Qsc (k:Kn) (h:k.sm) (tx:Int):VCalls prog 90 [.agg k.d,.int .i64 tx] [] (QG krD (QC0 k tx)):=by
 refine dk Tryz.func90 ?_
 have c1:=Qdt k h tx
 have c2:=Qd5 k h ⟨0,5,tx,0,0,0,Ch0,[]⟩
 have c3:=QAv k h tx
 have hf:∀ er,er≠0->QC0 k tx (k,QaA er):=fun er hr=>⟨h,fun h=>by simp[QaA] at h,fun _ h=>absurd rfl h,fun _=>hr⟩
 (unfold Tryz.f90; refine rn trivial ?_)
 refine Qo c1 rfl ?_
 rintro⟨t,e⟩ ⟨ht,hq0⟩
 by_cases he:e=0
 rotate_left
 ·skip
  have F:=@he
  refine rn F ?_
  repeat' (first
   | with_reducible exact⟨⟩
   | refine vp F (Qae _) ?_
   | (refine Qc (id:=3) [0,1] [⟨[],[],2,[0],[]⟩,⟨[],[],3,[1],[]⟩,⟨[],[],4,[],[]⟩] (by kernel_rfl) (by kernel_rfl) ?_; refine rn F ?_))
  exact⟨rfl,rfl,(k,QaA e),rfl,hf _ he⟩
 obtain⟨hv,hi,rfl,hst⟩:=hq0 he
 subst he
 have hid:=QrG hi
 have hta:Qa7 k.tx (Qa7 k.tx tx).id=Qa7 k.tx tx:=by rw[hid]
 have hid0:0<=idT k.tx (Qa7 k.tx tx).id:=by rw[hid]; exact hi
 have hfin:(Qa7 k.tx tx).st=3->(Qa7 k.tx tx).l.length=0->QEC k ⟨0,5,tx,0,0,0,Ch0,[]⟩:=fun a b=>⟨hi,fun h=>by simp at h,fun _=>⟨a,JN b⟩⟩
 dsimp only at hst ht
 unfold QAZ at c3
 generalize htt:Qa7 k.tx tx=t at *
 have F:=trivial
 refine rn F ?_
 repeat' (first
  | with_reducible exact⟨⟩
  | (refine sG F ?_ ?_<;>intro hZ)
  | (refine sB F ?_ ?_<;>intro hZ)
  | (refine Qo (c2) rfl ?_; rintro⟨k1,n1,e1⟩ hq; refine rn F ?_)
  | refine vp F (Qae _) ?_
  | (refine Qo (Qdu k1.lk (Je hq.1.2.2.1 (by decide)) tx) rfl ?_; rintro u hu; refine rn F ?_)
  | (refine Qo (c3) rfl ?_; rintro⟨y,ok⟩ hy; refine rn F ?_)
  | (refine Qo (Qr5 k h hv t hid0 hta hst y (hy (by first | assumption | simp_all)).2.2.2) rfl ?_; rintro⟨k2,r2⟩ hq2; refine rn F ?_)
  | (refine Qc (id:=7) [0,1] [⟨[],[],2,[0],[]⟩,⟨[],[],3,[1],[]⟩,⟨[],[],4,[],[]⟩] (by kernel_rfl) (by kernel_rfl) ?_; refine rn F ?_)
  | (refine Qc (id:=12) [0] [⟨[],[],1,[0],[]⟩,⟨[],[],2,[],[]⟩,⟨[],[],3,[],[]⟩] (by kernel_rfl) (by kernel_rfl) ?_; refine rn F ?_))
 all_goals first
  | exact⟨rfl,rfl,(k,QaA _),rfl,hf _ (by first | assumption | decide)⟩
  | (obtain ⟨q1,q2,q3,q4,q5,q6,q7⟩:=Qvd hq (by omega)
     have qs:=Qgv hq (by omega) (.inr (.inr rfl)) (hfin (by omega) (by omega))
     obtain⟨r1,r2,r3,r4,r5,r6⟩:=hq.1
     exact⟨rfl,rfl,(⟨k1.pg,k1.nx,k1.lg,k1.pl,u,k1.tx,k1.ix,k1.la⟩,⟨1,0,0,Ce0,0⟩),rfl,⟨r1,r2,Je hu r3,r4,r5,r6⟩,fun h=>by simp at h,fun _ _=>⟨qs.step (.lock u),by dsimp only; omega⟩,fun h=>by simp at h⟩)
  | (obtain ⟨y1,y2,y3,_⟩:=hy (by first | assumption | simp_all)
     dsimp only at y2
     exact⟨rfl,rfl,(k2,r2),rfl,hq2.1,fun h=>⟨hv,(hq2.2.1 h).1,by rw[<- y2]; exact(hq2.2.1 h).2.1,y3,by rw[(hq2.2.1 h).2.1]; exact(hq2.2.1 h).2.2⟩,fun a b=>(hq2.2.2.1 a b).2,hq2.2.2.2⟩)
  | skip
def QEf(k:Kn)(pg:Int)(a:Kn×Rs):Prop:=a.1.sm/\(a.2.st=3->a.1=k/\a.2.pg=pg/\idF k.pl.fs pg<0)/\(a.2.st≠3->a.2.st≠5->a.2.tx≠0->Str 0 k a.1/\k.lg.es.length<a.1.lg.es.length)/\(a.2.st=5->a.2.er≠0)
def QAE (k:Kn) (h:k.sm) (tx pg sl:Int):VCalls prog 131 [.agg k.d,.int .i64 tx,.agg [.int .i64 pg,.int .i64 sl]] [] (QG krD (QEf k pg)):=by
 refine dk Tryz.func131 ?_
 have c1:=Qdt k h tx
 have c3:=Qk5 k h tx pg sl
 have hf:∀ er,er≠0->QEf k pg (k,QaA er):=fun er hr=>⟨h,fun h=>by simp[QaA] at h,fun _ h=>absurd rfl h,fun _=>hr⟩
 (unfold Tryz.f131; refine rn trivial ?_)
 refine Qo c1 rfl ?_
 rintro⟨t,e⟩ ⟨ht,hq0⟩
 by_cases he:e=0
 rotate_left
 ·skip
  have F:=@he
  refine rn F ?_
  repeat' (first
   | with_reducible exact⟨⟩
   | refine vp F (Qae _) ?_
   | (refine Qc (id:=3) [0,1] [⟨[],[],2,[0],[]⟩,⟨[],[],3,[1],[]⟩,⟨[],[],4,[],[]⟩] (by kernel_rfl) (by kernel_rfl) ?_; refine rn F ?_))
  exact⟨rfl,rfl,(k,QaA e),rfl,hf _ he⟩
 obtain⟨hv,hi,rfl,hst⟩:=hq0 he
 subst he
 have hid:=QrG hi
 have hta:Qa7 k.tx (Qa7 k.tx tx).id=Qa7 k.tx tx:=by rw[hid]
 have hid0:0<=idT k.tx (Qa7 k.tx tx).id:=by rw[hid]; exact hi
 dsimp only at hst ht
 generalize htt:Qa7 k.tx tx=t at *
 have F:=trivial
 refine rn F ?_
 repeat' (first
  | with_reducible exact⟨⟩
  | (refine sB F ?_ ?_<;>intro hZ)
  | refine vp F (Qae _) ?_
  | (refine Qo (c3) rfl ?_; rintro⟨y,ok⟩ hy; refine rn F ?_)
  | (refine Qo (Qr5 k h hv t hid0 hta hst y (hy (by first | assumption | simp_all)).1) rfl ?_; rintro⟨k2,r2⟩ hq2; refine rn F ?_)
  | (refine Qc (id:=5) [0] [⟨[],[],1,[0],[]⟩,⟨[],[],2,[],[]⟩,⟨[],[],3,[],[]⟩] (by kernel_rfl) (by kernel_rfl) ?_; refine rn F ?_))
 all_goals first
  | exact⟨rfl,rfl,(k,QaA _),rfl,hf _ (by first | assumption | decide)⟩
  | exact⟨rfl,rfl,(k,⟨1,0,0,Ce0,0⟩),rfl,h,fun h=>by simp at h,fun _ _ h=>absurd rfl h,fun h=>by simp at h⟩
  | (have y2:=(hy (by first | assumption | simp_all)).2
     dsimp only at y2
     rw[y2] at hq2
     exact⟨rfl,rfl,(k2,r2),rfl,hq2.1,hq2.2.1,fun h1 h2 _=>(hq2.2.2.1 h1 h2).2,hq2.2.2.2⟩)
  | skip
end
section
attribute [local go_sem] Qba
def Ev.get(h:Ev x y)(h0:(Qbr x n).2=0):Qbr y n=Qbr x n:=by
 obtain⟨hv,h1,h2,_,_⟩:=Qns h0
 have hf:=h.f
 obtain⟨t,ht⟩:=h.pre
 have hv2:=h.ok hv
 have hl:y.es.length=x.es.length+t.length:=by rw[<- ht,Jf]
 have hd:=Q9 hv
 simp only[Lg.hd] at hd
 unfold Qbr
 rw[if_neg (by rw[hv2]; decide),if_neg (by simp only[Lg.end_] at *; omega),if_neg (by rw[hv]; decide),if_neg (by omega)]
 rw[hf,<- ht]
 congr 1
 simp only[Lg.end_] at h2
 rw[Ja,Ja,JG (by omega)]
def Qn4(s:Sv)(hs:s.sm)(tx:Int):VCalls prog 127 [.agg s.d,.int .i64 tx] [] (QG boD fun _=>True):=by
 refine dd Tryz.func127 ?_
 have h4:=hs.1.2.2.2.1
 have c2:=Qb3 s.k.tx (Je h4.1 (by decide)) tx
 rcases QB s.k.tx tx with hn | ⟨i,hil,hid,_⟩
 ·rw [hn] at c2
  (unfold Tryz.f127; refine rn trivial ?_)
  refine rn F ?_
  repeat' (first
   | with_reducible exact⟨⟩
   | refine vp F (c2) ?_)
  all_goals exact⟨rfl,rfl,_,rfl,trivial⟩
 rw[hid] at c2
 have hg:=Qea s.k.tx i hil
 (unfold Tryz.f127; refine rn trivial ?_)
 have F:=@hg
 refine rn F ?_
 repeat' (first
  | with_reducible exact⟨⟩
  | refine vp F (c2) ?_)
 all_goals exact⟨rfl,rfl,_,rfl,trivial⟩
def inP(l:List Fm)(a:Int):Nat:=if 0<=idF l a then 0 else 1
def QyW(l:List Fm)(a:Int):inP l a<=1:=by unfold inP; split<;>omega
def rbM(tx:Int)(s:Sv):Nat:=2*(4096-s.k.lg.es.length)+inP s.k.pl.fs (QjW s.k.tx s.k.lg tx).c.pg
def QwS(h:s.k.lg.es.length<t.k.lg.es.length)(hl:t.k.lg.es.length<=4096):rbM tx t<rbM tx s:=by
 have:=QyW t.k.pl.fs (QjW t.k.tx t.k.lg tx).c.pg
 unfold rbM; omega
def Qoi(ev:Ev s.k.lg t.k.lg)(hx:t.k.tx=s.k.tx)(h0:(Qbr s.k.lg (Qng s.k.tx tx)).2=0)(h1:idF s.k.pl.fs (QjW s.k.tx s.k.lg tx).c.pg<0)(h2:0<=idF t.k.pl.fs (QjW s.k.tx s.k.lg tx).c.pg):rbM tx t<rbM tx s:=by
 have hl:=ev.len
 have e:QjW t.k.tx t.k.lg tx=QjW s.k.tx s.k.lg tx:=by unfold QjW; rw[hx,ev.get h0]
 unfold rbM
 rw[e]
 unfold inP
 rw[if_pos h2,if_neg (by omega)]
 omega
def evQ(s:Sv)(a:Sv×Int):Prop:=a.1.sm/\(a.2=0->Str 0 s.k a.1.k)
structure Re(s0:Sv) where
 s:Sv
 sm:s.sm
 ev:Str 0 s0.k s.k
def QmU(s:Sv)(hs:s.sm)(tx:Int):VCalls prog 128 [.agg s.d,.int .i64 tx] [] (QG svD (evQ s)):=by
 refine dk Tryz.func128 ?_
 have c1:=QaW s.k hs.1
 have c2:=Qb3 s.k.tx (Je hs.1.2.2.2.1.1 (by decide)) tx
 have e0:∀ e,e≠0->evQ s (Sv0,e):=fun e h=>⟨Qdk,fun h2=>absurd h2 h⟩
 (unfold Tryz.f128; refine rn trivial ?_)
 refine rn F ?_
 repeat' (first
  | with_reducible exact⟨⟩
  | (refine sB F ?_ ?_<;>intro hZ)
  | (refine Qo (c1) rfl ?_; rintro b -; refine rn F ?_)
  | refine vp F (c2) ?_)
 all_goals first
  | exact⟨rfl,rfl,(Sv0,15),rfl,e0 _ (by decide)⟩
  | exact⟨rfl,rfl,(Sv0,16),rfl,e0 _ (by decide)⟩
  | skip
 refine Qi (fun r:Re s=>⟨56,0,[(4,.ptr 1 0),(2,.ptr 0 0),(1,.int .i64 tx)],[⟨74,true,r.s.d⟩,⟨74,true,Zv⟩]⟩) (fun r=>rbM tx r.s) ⟨s,hs,Str.refl _⟩ (gc [0,1]) ?_
 rintro⟨s1,sm,ev⟩
 dsimp only
 unfold Zv
 have d1:=Qn4 s1 sm tx
 have d2:=Qsc s1.k sm.1 tx
 have d3:=fun n=>Qex s1 sm n
 refine rn F ?_
 repeat' (first
  | with_reducible exact⟨⟩
  | (refine sB F ?_ ?_<;>intro hZ)
  | (refine Qo (d1) rfl ?_; rintro b2 -; refine rn F ?_)
  | (refine Qo (d2) rfl ?_; rintro⟨k1,r1⟩ hq; refine rn F ?_)
  | (refine Qo (d3 _) rfl ?_; rintro⟨s2,e2⟩ hq2; refine rn F ?_)
  | (refine Qc (id:=10) [0,1,2] [⟨[],[],3,[1,2],[]⟩,⟨[],[],4,[],[]⟩] (by kernel_rfl) (by kernel_rfl) ?_; refine rn F ?_))
 all_goals first
  | exact⟨rfl,rfl,(s1,0),rfl,sm,fun _=>ev⟩
  | exact⟨rfl,rfl,(Sv0,e2),rfl,e0 _ (by assumption)⟩
  | exact⟨rfl,rfl,(Sv0,r1.er),rfl,e0 _ (hq.2.2.2 (by assumption))⟩
  | skip
 ·obtain ⟨v,_,g1,g2,g3⟩:=hq.2.1 (by first | assumption | omega)
  have q2:=hq2.2 (by dsimp only; omega)
  dsimp only at g1 g3 q2
  rw[g1] at g3 q2
  exact⟨⟨s2,hq2.1,ev.trans q2.1⟩,Qoi q2.1.ev q2.2.1 g2 g3 q2.2.2,(gc [0,1])⟩
 ·have q:=hq.2.2.1 (by dsimp only; omega) (by dsimp only; omega)
  exact⟨⟨⟨k1,s1.v⟩,⟨hq.1,sm.2⟩,ev.trans q.1⟩,QwS q.2 hq.1.1,(gc [0,1])⟩
end
section
attribute [local go_sem] Qba
@[go_sem] def srD(a:Sv×Rs):DV:=.tup [.agg a.1.d,.agg a.2.d]
def QFm(s:Sv)(a:Sv×Rs):Prop:=a.1.sm/\(a.2.st=2->Str 0 s.k a.1.k)/\(a.2.st≠5->Str 1 s.k a.1.k)
def QgS(s t:Sv)(h:t.sm)(e:Int):QFm s (t,QaA e):=⟨h,fun h=>by simp[QaA] at h,fun h=>absurd rfl h⟩
def Zr:List DV:=[.int .i64 0,.int .i64 0,.int .i64 0,.bool false,.pv (.str []),.int .i64 0]
def QDa (s:Sv) (hs:s.sm) (tx:Int) (a:Ac):VCalls prog 95 [.agg s.d,.int .i64 tx,.agg a.d] [] (QG srD (QFm s)):=by
 refine dk Tryz.func95 ?_
 (unfold Tryz.f95; refine rn trivial ?_)
 refine Qi (fun r:Re s=>⟨79,0,[(7,.ptr 3 0),(6,.ptr 2 0),(5,.ptr 1 0),(3,.ptr 0 0),(1,.int .i64 tx)],[⟨74,true,r.s.d⟩,⟨121,true,a.d⟩,⟨74,true,Zv⟩,⟨118,true,Zr⟩]⟩) (fun r=>inP r.s.k.pl.fs a.pg) ⟨s,hs,Str.refl _⟩ (gc [0,1,2,3]) ?_
 rintro⟨s1,sm,ev⟩
 dsimp only
 unfold Zv Zr
 have d1:=QDf s1.k sm.1 tx a
 have d2:=fun(k:Kn) (hk:k.sm)=>Qex ⟨k,s1.v⟩ ⟨hk,sm.2⟩
 have d3:=fun(k:Kn) (hk:k.sm)=>Qn4 ⟨k,s1.v⟩ ⟨hk,sm.2⟩ tx
 have d4:=fun(k:Kn) (hk:k.sm)=>QmU ⟨k,s1.v⟩ ⟨hk,sm.2⟩ tx
 refine rn F ?_
 repeat' (first
  | with_reducible exact⟨⟩
  | (refine sG F ?_ ?_<;>intro hZ)
  | (refine sB F ?_ ?_<;>intro hZ)
  | (refine Qo (d1) rfl ?_; rintro⟨k1,r1⟩ hq; refine rn F ?_)
  | (refine Qo (d2 k1 hq.1 _) rfl ?_; rintro⟨s2,e2⟩ hq2; refine rn F ?_)
  | refine vp F (Qae _) ?_
  | (refine Qo (d3 k1 hq.1) rfl ?_; rintro b -; refine rn F ?_)
  | (refine Qo (d4 k1 hq.1) rfl ?_; rintro⟨s3,e3⟩ hq3; refine rn F ?_)
  | (refine Qc (id:=6) [0,1] [⟨[],[],2,[0],[]⟩,⟨[],[],3,[1],[]⟩,⟨[],[],4,[],[]⟩] (by kernel_rfl) (by kernel_rfl) ?_; refine rn F ?_)
  | (refine Qc (id:=12) [0,1] [⟨[],[],2,[0],[]⟩,⟨[],[],3,[1],[]⟩,⟨[],[],4,[],[]⟩] (by kernel_rfl) (by kernel_rfl) ?_; refine rn F ?_)
  | (refine Qc (id:=14) [0,1] [⟨[],[],2,[1],[]⟩,⟨[],[],3,[],[]⟩] (by kernel_rfl) (by kernel_rfl) ?_; refine rn F ?_))
 all_goals first
  | exact⟨rfl,rfl,(⟨k1,s1.v⟩,QaA e2),rfl,QgS s ⟨k1,s1.v⟩ ⟨hq.1,sm.2⟩ e2⟩
  | exact⟨rfl,rfl,(⟨k1,s1.v⟩,QaA e3),rfl,QgS s ⟨k1,s1.v⟩ ⟨hq.1,sm.2⟩ e3⟩
  | exact⟨rfl,rfl,(⟨k1,s1.v⟩,r1),rfl,⟨hq.1,sm.2⟩,fun h=>ev.trans (hq.2.2.1 h),fun h=>by
   by_cases h2:r1.st=2
   ·exact(ev.trans (hq.2.2.1 h2)).mono (by omega)
   ·exact ev.tr0 (hq.2.2.2 (by dsimp only at *; omega) h2 h)⟩
  | (have q3:=hq3.2 (by dsimp only; omega)
     exact⟨rfl,rfl,(s3,r1),rfl,hq3.1,fun h=>by dsimp only at h; omega,fun h=>ev.tr0 ((hq.2.2.2 (by dsimp only at *; omega) (by dsimp only at *; omega) h).tr q3)⟩)
  | skip
 obtain⟨g1,g2,g3,g4⟩:=hq.2.1 (by first | assumption | (dsimp only; omega))
 have q2:=hq2.2 (by dsimp only; omega)
 dsimp only at g1 g2 g3 g4 q2
 rw[g2] at q2
 refine⟨⟨s2,hq2.1,(ev.trans g4).trans q2.1⟩,?_,(gc [0,1,2,3])⟩
 unfold inP
 dsimp only
 rw[if_pos q2.2.2,if_neg (by omega)]
 omega
@[go_sem] def QF9(a:Sv×Int×Int):DV:=.tup [.agg a.1.d,.int .i64 a.2.1,.int .i64 a.2.2]
def Qsh(s:Sv)(hs:s.sm):VCalls prog 65 [.agg s.d] [] (QG QF9 fun a=>a.1.sm/\(a.2.2=0->Str 1 s.k a.1.k)):=by
 refine dk Tryz.func65 ?_
 have c1:=Qsv s.k hs.1
 (unfold Tryz.f65; refine rn trivial ?_)
 refine rn F ?_
 repeat' (first
  | with_reducible exact⟨⟩
  | (refine sB F ?_ ?_<;>intro hZ)
  | (refine Qo (c1) rfl ?_; rintro⟨k1,n1,e1⟩ hq; refine rn F ?_))
 all_goals first
  | exact⟨rfl,rfl,(Sv0,0,e1),rfl,Qdk,fun h=>absurd h (by assumption)⟩
  | exact⟨rfl,rfl,(⟨k1,s.v⟩,n1,0),rfl,⟨hq.1,hs.2⟩,fun _=>by obtain⟨q1,q2,q3⟩:=hq.2 (by dsimp only; omega); dsimp only at q3; subst q3; exact .one (.begin q1 q2)⟩
  | skip
def mkR:∀ n:Nat,V.mk [.pv (.lit (.int .i64 0)),.pv (.lit (.int .i64 0)),.pv (.lit (.int .i64 0))] n = cells Qcc (Jm n Rw0)
 | 0=>rfl
 | n + 1=>by
   show _++V.mk _ n=_
   rw[mkR n,List.replicate_succ]; rfl
def Qn9(n:Int):VCalls prog 62 [.int .i64 n] [] (QG (fun a:List Rw×Int=>.tup [.agg [.pv (.sl (fz Qcc a.1))],.int .i64 a.2]) fun a=>a.1.length<=64/\(a.2=0->a.1=Jm n.toNat Rw0)/\(1<=n->n<=64->a.2=0)):=by
 refine dk Tryz.func62 ?_
 (unfold Tryz.f62; refine rn trivial ?_)
 refine rn F ?_
 repeat' (first
  | with_reducible exact⟨⟩
  | (refine sG F ?_ ?_<;>intro hZ)
  | (refine sB F ?_ ?_<;>intro hZ))
 all_goals first
  | exact⟨rfl,rfl,([],1),rfl,Jk _,fun h=>by simp at h,fun _ _=>by omega⟩
  | skip
 obtain⟨m,rfl⟩:∃ m:Nat,n=m:=⟨n.toNat,by omega⟩
 have hc:((0:Int)<=(m:Int)/\(m:Int)<=(m:Int)/\((24:Nat):Int)*(m:Int)<=281474976710656/\(m:Int)<=9223372036854775807)=True:=eq_true ⟨by omega,by omega,by omega,by omega⟩
 have hmk:=mkR m
 have hlr:(Jm m Rw0).length=m:=Jy
 refine rn (Jd @hc (Jd @hmk @hlr)) ?_
 exact⟨rfl,rfl,(Jm m Rw0,0),rfl,by dsimp only; rw[hlr]; omega,fun _=>rfl,fun _ _=>rfl⟩
end
section
attribute [local go_sem] Qba
def Lg1:Lg:=⟨1,[],0⟩
def QEz:lgB Lg1=true:=by decide
def QAw:VCalls prog 63 [] [] (Ret (.agg Lg1.c)):=by
 refine dk Tryz.func63 ?_
 (unfold Tryz.f63; refine rn trivial ?_)
 rfl
def Qw0(n:Int):(Qh6 n).1.fs=[]:=by unfold Qh6; split<;>rfl
def Qsd(s:Sv)(hs:s.sm)(n:Int):VCalls prog 68 [.agg s.d,.int .i64 n] [] (QG svD (evQ s)):=by
 refine dk Tryz.func68 ?_
 have c1:=QwI s.k hs.1 n
 have c2:=Qcz s.k.pl (Je hs.1.2.1 (by decide)) n
 have c3:=fun k hk x=>Qn2 s hs.2 k hk x
 have e0:∀ e,e≠0->evQ s (Sv0,e):=fun e h=>⟨Qdk,fun h2=>absurd h2 h⟩
 (unfold Tryz.f68; refine rn trivial ?_)
 refine Qo c1 rfl ?_
 rintro⟨k1,x,e⟩ hq
 by_cases he:e=0
 rotate_left
 ·skip
  have F:=@he
  refine rn F ?_
  exact⟨rfl,rfl,(Sv0,e),rfl,e0 _ he⟩
 obtain⟨q1,q2,q3,q4,q5⟩:=hq.2 he
 dsimp only at q1 q2 q3 q4 q5
 subst he
 rcases QbT s.k.pl n with hn | ⟨hpl,i,hi,hfi,hif,hpg⟩
 ·omega
 have hx:(k1.pl.fs.getD i Fm0).pg=x:=by
  rw[q3,q4]; unfold QeP; rw[hfi,if_neg (by omega),Jj]
 have hxi:idF k1.pl.fs x.id=i:=by rw[<- hx,q4,hpg]; exact hif
 have hw:=fun(s2:Sv) (e2:Int) (hq2:QqR k1 x (s2,e2)) (h:e2=0) (hd:(s.k.pl.fs.getD i Fm0).dirty=true)=>(Qim hq2 h (by rw[q4]; exact hpl) (by rw[q4]; exact hi) hxi hx (by rw[q4]; exact hd)).1
 dsimp only at hw
 rw[hfi] at c2
 have hg:=Qb0 s.k.pl.fs i hi
 generalize s.k.pl.fs.getD i Fm0=f at *
 have F:=@hg
 refine rn F ?_
 repeat' (first
  | with_reducible exact⟨⟩
  | (refine sB F ?_ ?_<;>intro hZ)
  | refine vp F (c2) ?_
  | (refine Qo (c3 k1 hq.1 x) rfl ?_; rintro⟨s2,e2⟩ hq2; refine rn F ?_)
  | (refine Qc (id:=4) [0,1,2,3,4,5,6,7] [⟨[],[],8,[0,1,2,3,4,5],[9,10,11,12]⟩] (by kernel_rfl) (by kernel_rfl) ?_; refine rn F ?_))
 all_goals first
  | exact⟨rfl,rfl,(s,0),rfl,hs,fun _=>Str.refl _⟩
  | exact⟨rfl,rfl,(s2,e2),rfl,hq2.1,fun h=>q1.trans (hw s2 e2 hq2 h (by first | assumption | simp_all))⟩
  | skip
end
section
attribute [local go_sem] Qba
@[go_sem] def tbD(a:Tx×Bool):DV:=.tup [.agg a.1.d,.bool a.2]
def Qk7(k:Kn)(h:k.sm)(tx:Int):VCalls prog 119 [.agg k.d,.int .i64 tx] [] (QG tbD fun _=>True):=by
 refine dk Tryz.func119 ?_
 have c1:=QaW k h
 have c2:=Qb3 k.tx (Je h.2.2.2.1.1 (by decide)) tx
 rcases QB k.tx tx with hn | ⟨i,hil,hid,_⟩
 ·rw [hn] at c2
  (unfold Tryz.f119; refine rn trivial ?_)
  refine rn F ?_
  repeat' (first
   | with_reducible exact⟨⟩
   | (refine sB F ?_ ?_<;>intro hZ)
   | (refine Qo (c1) rfl ?_; rintro b -; refine rn F ?_)
   | refine vp F (c2) ?_)
  all_goals exact⟨rfl,rfl,(Tx0,false),rfl,trivial⟩
 rw[hid] at c2
 have hg:=Qea k.tx i hil
 (unfold Tryz.f119; refine rn trivial ?_)
 have F:=@hg
 refine rn F ?_
 repeat' (first
  | with_reducible exact⟨⟩
  | (refine sB F ?_ ?_<;>intro hZ)
  | (refine Qo (c1) rfl ?_; rintro b hb; refine rn F ?_)
  | refine vp F (c2) ?_)
 all_goals first
  | exact⟨rfl,rfl,(k.tx.getD i Tx0,true),rfl,trivial⟩
  | exact⟨rfl,rfl,(Tx0,false),rfl,trivial⟩
  | skip
@[go_sem] def QG0(a:Int×Int×Int×Bool):DV:=.tup [.int .i64 a.1,.agg [.int .i64 a.2.1,.int .i64 a.2.2.1],.bool a.2.2.2]
def QpG(k:Kn)(h:k.sm)(tx:Int):VCalls prog 96 [.agg k.d,.int .i64 tx] [] (QG QG0 fun _=>True):=by
 refine dk Tryz.func96 ?_
 have h3:=h.2.2.1
 have c1:=Qds k.lk (by omega) tx
 have c2:=Qob k.lk (by omega) tx
 have c3:=fun n=>Qk7 k h n
 (unfold Tryz.f96; refine rn trivial ?_)
 refine rn F ?_
 repeat' (first
  | with_reducible exact⟨⟩
  | (refine sB F ?_ ?_<;>intro hZ)
  | (refine Qo (c1) rfl ?_; rintro⟨g,b⟩ -; refine rn F ?_)
  | (refine Qo (c2) rfl ?_; rintro l hl; refine rn F ?_))
 all_goals first
  | exact⟨rfl,rfl,(0,0,0,false),rfl,trivial⟩
  | skip
 refine Qi (fun s:To l.length=>⟨44,0,[(28,.int .i64 s.i),(27,.int .i64 l.length),(26,.pv (.sl (fz QW l))),(7,.ptr 2 0),(5,.ptr 1 0),(2,.ptr 0 0)],[⟨41,true,k.d⟩,⟨180,true,[.int .i64 0,.int .i64 0]⟩,⟨205,true,g.d⟩]⟩) (fun s=>l.length-s.i) ⟨0,Jk _⟩ (gc [0,1,2]) ?_
 rintro⟨i,hi⟩
 dsimp only
 have hx:=fun h:i<l.length=>QY l i h
 have F:=@hx
 refine rn F ?_
 repeat' (first
  | with_reducible exact⟨⟩
  | (refine sB F ?_ ?_<;>intro hZ)
  | (refine Qo (c3 _) rfl ?_; rintro⟨t,b3⟩ -; refine rn F ?_)
  | (refine Qc (id:=9) [0,1,2] [⟨[],[],3,[1,2],[]⟩,⟨[],[],4,[],[]⟩,⟨[],[],5,[],[]⟩] (by kernel_rfl) (by kernel_rfl) ?_; refine rn F ?_))
 all_goals first
  | exact⟨rfl,rfl,(_,g.pg,g.sl,true),rfl,trivial⟩
  | exact⟨rfl,rfl,(0,0,0,false),rfl,trivial⟩
  | exact⟨⟨i+1,by omega⟩,by dsimp only; omega,(gc [0,1,2])⟩
  | skip
def Qwy(k:Kn)(h:k.sm):VCalls prog 89 [.agg k.d] [] (QG ilD fun l=>l.length<=65):=by
 refine dk Tryz.func89 ?_
 have h4:=h.2.2.2.1.1
 have c3:=fun n=>Qk7 k h n
 (unfold Tryz.f89; refine rn trivial ?_)
 refine VLoop.nilOwn 3 3 1 rfl ?_
 refine rn trivial ?_
 refine Qi (fun s:{s:Nat×List Int // s.1<=k.tx.length/\s.2.length<=s.1}=>⟨36,0,[(4,.int .i64 s.1.1),(3,.own 1 1 0 s.1.2.length),(1,.ptr 0 0)],[⟨41,true,k.d⟩,⟨3,true,cells QW s.1.2⟩]⟩) (fun s=>k.tx.length-s.1.1) ⟨(0,[]),by simp⟩ (gc [0,1]) ?_
 rintro⟨⟨i,out⟩,hi,ho⟩
 dsimp only at hi ho |-
 have hg:=fun h:i<k.tx.length=>Qea k.tx i h
 have hb:(out.length+1)*8<=140737488355328:=by omega
 have F:=(Jd @hg @hb)
 refine rn F ?_
 repeat' (first
  | with_reducible exact⟨⟩
  | (refine sB F ?_ ?_<;>intro hZ)
  | (refine Qo (c3 _) rfl ?_; rintro⟨t,b3⟩ -; refine rn F ?_)
  | (refine Qc (id:=5) [0,1,2,3,4,5,6] [⟨[11],[],7,[1,2,3,4,5],[8,9,10]⟩,⟨[11],[11],12,[10],[]⟩,⟨[],[],13,[],[]⟩] (by kernel_rfl) (by kernel_rfl) ?_; refine rn F ?_))
 all_goals first
  | exact⟨rfl,rfl,out,rfl,by omega⟩
  | exact⟨⟨(i+1,out),by dsimp only; omega,by dsimp only; omega⟩,by dsimp only; omega,(gc [0,1])⟩
  | exact⟨⟨(i+1,out++[(k.tx.getD i Tx0).id]),by dsimp only; omega,by simp; omega⟩,by dsimp only; omega,by dsimp only; rw[Jf]; exact(gc [0,4])⟩
  | skip
@[go_sem] def QGF(a:Sv×Nat×Int):DV:=.tup [.agg a.1.d,.int .i64 a.2.1,.int .i64 a.2.2]
def ceQ(s:Sv)(a:Sv×Nat×Int):Prop:=a.1.sm/\(a.2.2=0->Str 0 s.k a.1.k/\a.2.1+s.k.lg.es.length<=a.1.k.lg.es.length)
structure Rn(s0:Sv) where
 s:Sv
 n:Nat
 sm:s.sm
 ev:Str 0 s0.k s.k
 up:n+s0.k.lg.es.length<=s.k.lg.es.length
def Qwo(s:Sv)(hs:s.sm)(tx pg sl:Int):VCalls prog 97 [.agg s.d,.int .i64 tx,.agg [.int .i64 pg,.int .i64 sl]] [] (QG QGF (ceQ s)):=by
 refine dk Tryz.func97 ?_
 (unfold Tryz.f97; refine rn trivial ?_)
 refine Qi (fun r:Rn s=>⟨57,0,[(9,.int .i64 r.n),(6,.ptr 2 0),(5,.ptr 1 0),(3,.ptr 0 0),(1,.int .i64 tx)],[⟨74,true,r.s.d⟩,⟨180,true,[.int .i64 pg,.int .i64 sl]⟩,⟨74,true,Zv⟩]⟩) (fun r=>2*(4096-r.s.k.lg.es.length)+inP r.s.k.pl.fs pg) ⟨s,0,hs,Str.refl _,by omega⟩ (gc [0,1,2]) ?_
 rintro⟨s1,n,sm,ev,up⟩
 have hle:=sm.1.1
 dsimp only
 unfold Zv
 have d1:=QAE s1.k sm.1 tx pg sl
 have d2:=fun p=>Qex s1 sm p
 refine rn F ?_
 repeat' (first
  | with_reducible exact⟨⟩
  | (refine sB F ?_ ?_<;>intro hZ)
  | (refine Qo (d1) rfl ?_; rintro⟨k1,r1⟩ hq; refine rn F ?_)
  | (refine Qo (d2 _) rfl ?_; rintro⟨s2,e2⟩ hq2; refine rn F ?_)
  | (refine Qc (id:=6) [0,1,2,3] [⟨[],[],4,[1,2,3],[]⟩,⟨[],[],5,[2,3],[]⟩,⟨[],[],6,[],[]⟩] (by kernel_rfl) (by kernel_rfl) ?_; refine rn F ?_))
 all_goals first
  | exact⟨rfl,rfl,(s1,n,_),rfl,sm,fun _=>⟨ev,up⟩⟩
  | skip
 ·obtain ⟨g1,g2,g3⟩:=hq.2.1 (by first | assumption | (dsimp only; omega))
  have q2:=hq2.2 (by dsimp only; omega)
  dsimp only at g1 g2 g3 q2
  rw[g2] at q2
  have hl:=q2.1.ev.len
  refine⟨⟨s2,n,hq2.1,ev.trans q2.1,by omega⟩,?_,(gc [0,1,2])⟩
  unfold inP
  dsimp only
  rw[if_pos q2.2.2,if_neg (by omega)]
  omega
 ·obtain ⟨qe,q⟩:=hq.2.2.1 (by dsimp only; omega) (by dsimp only; omega) (by dsimp only; omega)
  have hk:=hq.1.1
  have h1:=QyW k1.pl.fs pg
  dsimp only at q hk
  exact⟨⟨⟨k1,s1.v⟩,n+1,⟨hq.1,sm.2⟩,ev.trans qe,by dsimp only; omega⟩,by dsimp only; omega,(gc [0,1,2])⟩
end
section
attribute [local go_sem] Qba
def QDh (s:Sv) (hs:s.sm) (tx:Int) (a:Ac):VCalls prog 80 [.agg s.d,.int .i64 tx,.agg a.d] [] (QG srD (QFm s)):=by
 refine dk Tryz.func80 ?_
 (unfold Tryz.f80; refine rn trivial ?_)
 refine Qi (fun r:Re s=>⟨58,0,[(7,.ptr 3 0),(6,.ptr 2 0),(5,.ptr 1 0),(3,.ptr 0 0),(1,.int .i64 tx)],[⟨74,true,r.s.d⟩,⟨121,true,a.d⟩,⟨74,true,Zv⟩,⟨118,true,Zr⟩]⟩) (fun r=>4096-r.s.k.lg.es.length) ⟨s,hs,Str.refl _⟩ (gc [0,1,2,3]) ?_
 rintro⟨s1,sm,ev⟩
 dsimp only
 unfold Zv Zr
 have d1:=QDa s1 sm tx a
 have d2:=fun(t:Sv) (h:t.sm)=>QpG t.k h.1 tx
 have d3:=fun(t:Sv) (h:t.sm)=>Qwo t h
 refine rn F ?_
 repeat' (first
  | with_reducible exact⟨⟩
  | (refine sB F ?_ ?_<;>intro hZ)
  | (refine Qo (d1) rfl ?_; rintro⟨s2,r2⟩ hq; refine rn F ?_)
  | (refine Qo (d2 s2 hq.1) rfl ?_; rintro⟨x,p,q,b⟩ -; refine rn F ?_)
  | (refine Qo (d3 s2 hq.1 _ _ _) rfl ?_; rintro⟨s3,n,e3⟩ hq3; refine rn F ?_)
  | refine vp F (Qae _) ?_
  | (refine Qc (id:=4) [0,1] [⟨[],[],2,[1],[]⟩,⟨[],[],3,[],[]⟩] (by kernel_rfl) (by kernel_rfl) ?_; refine rn F ?_)
  | (refine Qc (id:=7) [0,1] [⟨[],[],2,[1],[]⟩,⟨[],[],3,[],[]⟩] (by kernel_rfl) (by kernel_rfl) ?_; refine rn F ?_)
  | (refine Qc (id:=11) [0,1] [⟨[],[],2,[0],[]⟩,⟨[],[],3,[1],[]⟩,⟨[],[],4,[],[]⟩] (by kernel_rfl) (by kernel_rfl) ?_; refine rn F ?_)
  | (refine Qc (id:=13) [0,1] [⟨[],[],2,[1],[]⟩,⟨[],[],3,[],[]⟩] (by kernel_rfl) (by kernel_rfl) ?_; refine rn F ?_))
 all_goals first
  | exact⟨rfl,rfl,(s2,r2),rfl,hq.1,fun h=>ev.trans (hq.2.1 h),fun h=>ev.tr0 (hq.2.2 h)⟩
  | exact⟨rfl,rfl,(s3,QaA e3),rfl,QgS s s3 hq3.1 e3⟩
  | (have q3:=(hq3.2 (by dsimp only; omega)).1
     have q4:=(ev.trans (hq.2.1 (by dsimp only; omega))).trans q3
     exact⟨rfl,rfl,(s3,r2),rfl,hq3.1,fun h=>q4,fun h=>q4.mono (by omega)⟩)
  | skip
 have qz:=hq.2.1 (by dsimp only; omega)
 have q3:=hq3.2 (by dsimp only; omega)
 have h1:=qz.ev.len
 have h2:=q3.2
 have h3:=hq3.1.1.1
 dsimp only at h1 h2 h3
 exact⟨⟨s3,hq3.1,(ev.trans qz).trans q3.1⟩,by dsimp only; omega,(gc [0,1,2,3])⟩
@[go_sem] def QGK(a:Sv×Bool×Int):DV:=.tup [.agg a.1.d,.bool a.2.1,.int .i64 a.2.2]
def wkQ(s:Sv)(a:Sv×Bool×Int):Prop:=a.1.sm/\(a.2.2=0->Str 0 s.k a.1.k)
def QAc(s:Sv)(hs:s.sm):VCalls prog 72 [.agg s.d] [] (QG QGK (wkQ s)):=by
 refine dk Tryz.func72 ?_
 have c1:=QaW s.k hs.1
 have c2:=fun n=>Qex s hs n
 have c3:=Qwy s.k hs.1
 have hg:=fun h:0<s.k.la.length=>QeQ s.k.la 0 h
 have e0:∀ e,e≠0->wkQ s (Sv0,false,e):=fun e h=>⟨Qdk,fun h2=>absurd h2 h⟩
 (unfold Tryz.f72; refine rn trivial ?_)
 have F:=@hg
 refine rn F ?_
 repeat' (first
  | with_reducible exact⟨⟩
  | (refine sB F ?_ ?_<;>intro hZ)
  | (refine Qo (c1) rfl ?_; rintro b -; refine rn F ?_)
  | (refine Qo (c2 _) rfl ?_; rintro⟨s2,e2⟩ hq; refine rn F ?_)
  | (refine Qo (c3) rfl ?_; rintro l hl; refine rn F ?_)
  | (refine Qc (id:=4) [0,1,2,3,4,5,6] [⟨[11],[],7,[1,2,3,4,5],[8,9,10]⟩,⟨[11],[11],12,[10],[]⟩,⟨[],[],13,[],[]⟩] (by kernel_rfl) (by kernel_rfl) ?_; refine rn F ?_))
 all_goals first
  | exact⟨rfl,rfl,(Sv0,false,15),rfl,e0 _ (by decide)⟩
  | exact⟨rfl,rfl,(s,false,0),rfl,hs,fun _=>Str.refl _⟩
  | exact⟨rfl,rfl,(s2,_,e2),rfl,hq.1,fun h=>(hq.2 h).1⟩
  | skip
 have hg0:=fun h:0<l.length=>QY l 0 h
 generalize l.getD 0 0=tx at *
 refine Qi (fun r:Re s=>⟨77,0,[(7,.pv (.sl (fz QW l))),(2,.ptr 1 0),(1,.ptr 0 0)],[⟨74,true,r.s.d⟩,⟨74,true,Zv⟩]⟩) (fun r=>rbM tx r.s) ⟨s,hs,Str.refl _⟩ (gc [0,1]) ?_
 rintro⟨s1,sm,ev⟩
 dsimp only
 unfold Zv
 have d2:=Qsc s1.k sm.1 tx
 have d3:=fun n=>Qex s1 sm n
 have F:=@hg0
 refine rn F ?_
 repeat' (first
  | with_reducible exact⟨⟩
  | (refine sB F ?_ ?_<;>intro hZ)
  | (refine Qo (d2) rfl ?_; rintro⟨k1,r1⟩ hq; refine rn F ?_)
  | (refine Qo (d3 _) rfl ?_; rintro⟨s2,e2⟩ hq2; refine rn F ?_)
  | (refine Qc (id:=9) [0,1,2,3,4] [⟨[9,10],[],5,[0,2,3],[6,7,8]⟩,⟨[9,10],[9],11,[8],[]⟩,⟨[10],[10],12,[],[]⟩] (by kernel_rfl) (by kernel_rfl) ?_; refine rn F ?_)
  | (refine Qc (id:=11) [0,1,2] [⟨[],[],3,[1,2],[]⟩,⟨[],[],4,[1,2],[]⟩,⟨[],[],5,[],[]⟩] (by kernel_rfl) (by kernel_rfl) ?_; refine rn F ?_))
 all_goals first
  | exact⟨rfl,rfl,(Sv0,false,e2),rfl,e0 _ (by assumption)⟩
  | exact⟨rfl,rfl,(Sv0,false,r1.er),rfl,e0 _ (hq.2.2.2 (by assumption))⟩
  | exact⟨rfl,rfl,(⟨k1,s1.v⟩,true,0),rfl,⟨hq.1,sm.2⟩,fun _=>ev.trans (hq.2.2.1 (by dsimp only; omega) (by dsimp only; omega)).1⟩
  | skip
 obtain⟨v,_,g1,g2,g3⟩:=hq.2.1 (by first | assumption | (dsimp only; omega))
 have q2:=hq2.2 (by dsimp only; omega)
 dsimp only at g1 g3 q2
 rw[g1] at g3 q2
 exact⟨⟨s2,hq2.1,ev.trans q2.1⟩,Qoi q2.1.ev q2.2.1 g2 g3 q2.2.2,(gc [0,1])⟩
end
def Qdy:∀ (l:List Int) (s:List UInt8),(Qkj s l).length = s.length + 8 * l.length
 | [],s=>by simp[Qkj]
 | a :: r,s=>by
   show(Qkj (Qk s a 8) r).length=_
   rw[Qdy r,Qb,Jr]; omega
def QsY(s:List UInt8)(l:List Int)(i:Nat)(h:i<l.length):Qkj s (l.take (i+1))=Qk (Qkj s (l.take i)) (l.getD i 0) 8:=by
 rw[Jn h,Qkj,JB,Qd l i h]; rfl
def Qn6(s:List UInt8)(l:List Int)(hb:s.length+8*l.length<=900000000):VCalls prog 189 [.pv (.str s),.pv (.sl (fz QW l))] [] (Ret (.pv (.str (Qkj s l)))):=by
 refine dd Tryz.func189 ?_
 (unfold Tryz.f189; refine rn trivial ?_)
 refine Qi (fun t:To l.length=>⟨19,0,[(5,.int .i64 t.i),(1,.pv (.sl (fz QW l))),(0,.pv (.str (Qkj s (l.take t.i))))],[]⟩) (fun t=>l.length-t.i) ⟨0,Jk _⟩ (gc []) ?_
 rintro⟨i,hi⟩
 dsimp only
 have hg:=fun h:i<l.length=>QY l i h
 have hlen:=Qdy (l.take i) s
 rw[Jq] at hlen
 have p2:=QT (Qkj s (l.take i)) (by omega) (l.getD i 0) 8 (by omega) (by omega)
 have hs:=QsY s l i
 have F:=@hg
 refine rn F ?_
 repeat' (first
  | with_reducible exact⟨⟩
  | (refine sB F ?_ ?_<;>intro hZ)
  | refine vp F (p2) ?_)
 ·refine ⟨⟨i + 1,by omega⟩,by dsimp only; omega,?_⟩
  dsimp only
  rw[hs (by omega)]
  exact(gc [])
 ·rw[Jt (by omega)]
def Quq(s:List UInt8)(t:Tx):(QeV s t).length=s.length+24+8*t.l.length+8*t.s.length:=by
 unfold QeV
 rw[Qdy,Qb,Qdy,Qb,Qb,Qb,Qb,Qb]; omega
def Qj5:∀ (l:List Tx) (s:List UInt8),(∀ t ∈ l,t.l.length<=4096/\t.s.length<=8)->(QeU s l).length<=s.length + 32856 * l.length
 | [],s,_=>by simp[QeU]
 | t :: r,s,h=>by
   have h1:=h t (by simp)
   have h2:=Qj5 r (QeV s t) fun t ht=>h t (List.mem_cons_of_mem _ ht)
   show(QeU (QeV s t) r).length<=_
   rw[Quq] at h2
   rw[Jr]; omega
def Qqb(s:List UInt8)(l:List Tx)(i:Nat)(h:i<l.length):QeU s (l.take (i+1))=QeV (QeU s (l.take i)) (l.getD i Tx0):=by
 rw[Jn h,QeU,JB,Qd l i h]; rfl
def QnW(hv:Qbw l=true):∀ t∈l,t.l.length<=4096/\t.s.length<=8:=fun t ht=>by
 obtain⟨i,hi,rfl⟩:=J2 ht
 exact Qd9 (Qbp hv hi)
def QoJ(hv:Qbw l=true):(QaT l).length<=3000000:=by
 have:=Qj5 l (Qk [] l.length 2) (QnW hv)
 have h2:=Qeq hv
 rw[Qb,JA] at this
 unfold QaT
 omega
def QAf(l:List Tx)(hl:smN 65 l)(hv:Qbw l=true):VCalls prog 144 [.pv (.sl (fz Qaf l))] [] (Ret (.tup [.pv (.str (QaT l)),.int .i64 0])):=by
 refine dd Tryz.func144 ?_
 have c1:=QbM l (hl.smL (by omega))
 have hsm:=QnW hv
 have hle:=Qeq hv
 rw[hv] at c1
 unfold QaT
 have p1:=QT [] (by simp) l.length 2 (by omega) (by omega)
 (unfold Tryz.f144; refine rn trivial ?_)
 refine rn F ?_
 repeat' (first
  | with_reducible exact⟨⟩
  | refine vp F (c1) ?_
  | refine vp F (p1) ?_)
 refine Qi (fun t:To l.length=>⟨56,0,[(5,.int .i64 t.i),(4,.pv (.str (QeU (Qk [] l.length 2) (l.take t.i)))),(0,.pv (.sl (fz Qaf l)))],[]⟩) (fun t=>l.length-t.i) ⟨0,Jk _⟩ (gc []) ?_
 rintro⟨i,hi⟩
 dsimp only
 have hg:=fun h:i<l.length=>Qea l i h
 have hlen:=Qj5 (l.take i) (Qk [] l.length 2) fun t ht=>hsm t (JF ht)
 rw[Qb,Jq,JA] at hlen
 have hsc:=Qqb (Qk [] l.length 2) l i
 have hend:l.length<=i->l.take i=l:=fun h=>Jt h
 by_cases hc:i<l.length
 ·have hq:=hsm (l.getD i Tx0) (by rw [Qd l i hc]; exact Jg hc)
  replace hsc:=hsc hc
  generalize QeU (Qk [] l.length 2) (l.take i)=s at *
  generalize l.getD i Tx0=x at *
  obtain⟨id,st,n,b,q,sv⟩:=x
  dsimp only at hg hq
  obtain⟨hq1,hq2⟩:=hq
  unfold QeV at hsc
  dsimp only at hsc
  have z0:s.length<=3000000:=by omega
  have p2:=QT s (by omega) id 4 (by omega) (by omega)
  have p3:=QT (Qk s id 4) (by rw[Qb]; omega) st 1 (by omega) (by omega)
  have p4:=QT (Qk (Qk s id 4) st 1) (by rw[Qb,Qb]; omega) n 8 (by omega) (by omega)
  have p5:=QT (Qk (Qk (Qk s id 4) st 1) n 8) (by rw[Qb,Qb,Qb]; omega) b 8 (by omega) (by omega)
  have p6:=QT (Qk (Qk (Qk (Qk s id 4) st 1) n 8) b 8) (by rw[Qb,Qb,Qb,Qb]; omega) q.length 2 (by omega) (by omega)
  have p6b:=Qn6 (Qk (Qk (Qk (Qk (Qk s id 4) st 1) n 8) b 8) q.length 2) q (by rw[Qb,Qb,Qb,Qb,Qb]; omega)
  have p7:=QT (Qkj (Qk (Qk (Qk (Qk (Qk s id 4) st 1) n 8) b 8) q.length 2) q) (by rw[Qdy,Qb,Qb,Qb,Qb,Qb]; omega) sv.length 1 (by omega) (by omega)
  have p7b:=Qn6 (Qk (Qkj (Qk (Qk (Qk (Qk (Qk s id 4) st 1) n 8) b 8) q.length 2) q) sv.length 1) sv (by rw[Qb,Qdy,Qb,Qb,Qb,Qb,Qb]; omega)
  have F:=@hg
  refine rn F ?_
  repeat' (first
   | with_reducible exact⟨⟩
   | refine vp F (p2) ?_
   | refine vp F (p3) ?_
   | refine vp F (p4) ?_
   | refine vp F (p5) ?_
   | refine vp F (p6) ?_
   | refine vp F (p6b) ?_
   | refine vp F (p7) ?_
   | refine vp F (p7b) ?_
   | (refine Qc (id:=12) [0,1,2,3,5,6] [⟨[],[],4,[1,2,5,6],[]⟩,⟨[],[],7,[0,1,2,3,5],[]⟩,⟨[],[],8,[],[]⟩] (by kernel_rfl) (by kernel_rfl) ?_; refine rn F ?_)
   | (refine Qc (id:=13) [0,1,2,3,5,6] [⟨[],[],4,[1,2,5,6],[]⟩,⟨[],[],7,[0,1,2,3,5],[]⟩,⟨[],[],8,[],[]⟩] (by kernel_rfl) (by kernel_rfl) ?_; refine rn F ?_))
  refine⟨⟨i+1,by omega⟩,by dsimp only; omega,?_⟩
  dsimp only
  rw[hsc]
  exact(gc [])
 ·rw [hend (by omega)]
  have F:=@hg
  (refine rn F ?_; try with_reducible exact⟨⟩)
def QeW:∀ (l:List Rw) (s:List UInt8),(Qee s l).length = s.length + 24 * l.length
 | [],s=>by simp[Qee]
 | t :: r,s=>by
   show(Qee (Qj6 s t) r).length=_
   rw[QeW r]
   unfold Qj6
   rw[Qb,Qb,Qb,Jr]; omega
def QiW(s:List UInt8)(l:List Rw)(i:Nat)(h:i<l.length):Qee s (l.take (i+1))=Qj6 (Qee s (l.take i)) (l.getD i Rw0):=by
 rw[Jn h,Qee,JB,Qd l i h]; rfl
def Ql1(l:List Rw):(Qcr l).length=2+24*l.length:=by
 unfold Qcr; rw[QeW,Qb,JA]
def QwD(l:List Rw)(hl:l.length<=64)(hv:ixB l=true):VCalls prog 145 [.agg [.pv (.sl (fz Qcc l))]] [] (Ret (.tup [.pv (.str (Qcr l)),.int .i64 0])):=by
 refine dd Tryz.func145 ?_
 have c1:=QbF l (by omega)
 have c2:=QT [] (by simp) l.length 2 (by omega) (by omega)
 rw[hv] at c1
 unfold Qcr
 (unfold Tryz.f145; refine rn trivial ?_)
 refine rn F ?_
 repeat' (first
  | with_reducible exact⟨⟩
  | refine vp F (c1) ?_
  | refine vp F (c2) ?_)
 refine Qi (fun r:To l.length=>⟨45,0,[(5,.int .i64 r.i),(4,.pv (.str (Qee (Qk [] l.length 2) (l.take r.i)))),(1,.ptr 0 0)],[⟨38,true,[.pv (.sl (fz Qcc l))]⟩]⟩) (fun r=>l.length-r.i) ⟨0,Jk _⟩ (gc [0]) ?_
 rintro⟨i,hi⟩
 dsimp only
 have hg:=fun h:i<l.length=>QlT l i h
 have hlen:=QeW (l.take i) (Qk [] l.length 2)
 rw[Qb,Jq,JA] at hlen
 have hsc:=QiW (Qk [] l.length 2) l i
 have hend:l.length<=i->l.take i=l:=fun h=>Jt h
 by_cases hc:i<l.length
 ·replace hsc:=hsc hc
  generalize Qee (Qk [] l.length 2) (l.take i)=s at *
  generalize l.getD i Rw0=x at *
  unfold Qj6 at hsc
  have p1:=QT s (by omega) x.lsn 8 (by omega) (by omega)
  have p2:=QT (Qk s x.lsn 8) (by rw[Qb]; omega) x.im 8 (by omega) (by omega)
  have p3:=QT (Qk (Qk s x.lsn 8) x.im 8) (by rw[Qb,Qb]; omega) x.at_ 8 (by omega) (by omega)
  have F:=@hg
  refine rn F ?_
  repeat' (first
   | with_reducible exact⟨⟩
   | refine vp F (p1) ?_
   | refine vp F (p2) ?_
   | refine vp F (p3) ?_)
  refine⟨⟨i+1,by omega⟩,by dsimp only; omega,?_⟩
  dsimp only
  rw[hsc]
  exact(gc [0])
 ·rw [hend (by omega)]
  have F:=@hg
  (refine rn F ?_; try with_reducible exact⟨⟩)
section
attribute [local go_sem] Qbs
@[go_sem] def Cp.d(c:Cp):List DV:=[.int .i64 c.pg,.int .i64 c.nx,.pv (.sl (fz Qaf c.tx)),.pv (.sl (fz QcM c.dl)),.pv (.sl (fz Qcc c.ix))]
def Cp0:Cp:=⟨0,0,[],[],[]⟩
def Cp.sm(c:Cp):Prop:=smN 65 c.tx/\c.dl.length<=10000/\c.ix.length<=64
def QEF:Cp0.sm:=⟨QX _,by decide,by decide⟩
@[go_sem] def QGk(a:Cp×Int):DV:=.tup [.agg a.1.d,.int .i64 a.2]
def Zc:List DV:=[.int .i64 0,.int .i64 0,.pv (.slc []),.pv (.slc []),.pv (.slc [])]
def Qld(h:plB p=true)(hi:i<p.fs.length):frC p.fs i=true:=by
 unfold plB at h
 rw[Jc,Jp] at h
 exact h.2 i (Ju.2 hi)
def Qub(h:frC l i=true)(hk:k<i):(l.getD k Fm0).pg.id≠(l.getD i Fm0).pg.id:=by
 unfold frC at h
 rw[Jc,Jp] at h
 have:=h.2 k (Ju.2 hk)
 unfold Qy7 at this
 simpa using this
def Qnw(h:frC l i=true):0<=(l.getD i Fm0).pg.id/\(l.getD i Fm0).pg.id<64:=by
 unfold frC Pg.okB Pg.numB at h
 simp only[Jc,decide_eq_true_eq] at h
 omega
def Qs6(h:plB p=true)(hi:i<p.fs.length):idF p.fs (p.fs.getD i Fm0).pg.id=i:=by
 obtain⟨j,hj,h1,h2⟩:=QoB (l:=p.fs) (a:=(p.fs.getD i Fm0).pg.id) ⟨i,hi,rfl⟩
 rcases JL i j with h3 | h3 | h3
 ·exact absurd h2.symm (Qub (Qld h hj) h3)
 ·rw[h1,h3]
 ·exact absurd h2 (Qub (Qld h hi) h3)
structure DyL(p:Pl)(l:List Dt):Prop where
 le:l.length<=64
 to:∀ d∈l,∃ f∈p.fs,f.dirty=true/\f.pg.id=d.pg/\f.pg.lsn=d.last
 of:plB p=true->∀ f∈p.fs,f.dirty=true->∃ d∈l,d.pg=f.pg.id
structure DyI(p:Pl) where
 i:Nat
 out:List Dt
 hi:i<=64
 ho:out.length<=i
 to:∀ d∈out,∃ f∈p.fs,f.dirty=true/\f.pg.id=d.pg/\f.pg.lsn=d.last
 of:∀ a:Nat,a<i->0<=idF p.fs a->(p.fs.getD (idF p.fs a).toNat Fm0).dirty=true->∃ d∈out,d.pg=a
def Qwv(p:Pl)(hl:p.fs.length<=100000):VCalls prog 142 [.agg p.d] [] (QG (fun l:List Dt=>.pv (.sl (fz QcM l))) (DyL p)):=by
 refine dk Tryz.func142 ?_
 have c1:=Qak p (by omega)
 have c2:=QcA p (by omega)
 have hfin:=fun(out:List Dt) (h1:out.length<=64) (h2:∀ d∈out,∃ f∈p.fs,f.dirty=true/\f.pg.id=d.pg/\f.pg.lsn=d.last) (h3:plB p=true->∀ a:Nat,a<64->0<=idF p.fs a->(p.fs.getD (idF p.fs a).toNat Fm0).dirty=true->∃ d∈out,d.pg=a)=>(⟨h1,h2,fun hp f hf hd=>by
  obtain⟨i,hi,rfl⟩:=Jb.1 hf
  have e1:=Qd p.fs i hi Fm0
  have e2:=Qs6 hp hi
  have e3:=Qnw (Qld hp hi)
  rw[e1] at e2 e3
  obtain⟨m,hm⟩:∃ m:Nat,(p.fs[i]).pg.id=m:=⟨(p.fs[i]).pg.id.toNat,by omega⟩
  rw[hm] at e2 e3 |-
  exact h3 hp m (by omega) (by omega) (by rw[e2,Jj,e1]; exact hd)⟩:DyL p out)
 generalize plB p=b at *
 (unfold Tryz.f142; refine rn trivial ?_)
 refine rn F ?_
 repeat' (first
  | with_reducible exact⟨⟩
  | (refine sB F ?_ ?_<;>intro hZ)
  | refine vp F (c1) ?_)
 ·exact⟨rfl,rfl,[],rfl,hfin [] (Jk _) (fun d h=>by simp at h) (fun h=>by simp_all)⟩
 refine VLoop.nilOwn 3 171 3 rfl ?_
 refine rn trivial ?_
 refine Qi (fun s:DyI p=>⟨45,0,[(4,.int .i64 s.i),(3,.own 1 3 0 s.out.length),(1,.ptr 0 0)],[⟨31,true,p.d⟩,⟨171,true,cells QcM s.out⟩]⟩) (fun s=>64-s.i) ⟨0,[],Jk _,Jk _,fun d h=>by simp at h,fun a h=>by omega⟩ (gc [0,1]) ?_
 rintro⟨i,out,hi,ho,hto,hof⟩
 dsimp only
 have c3:=c2 i
 have hnx:=fun(out2:List Dt) (hs:∀ d∈out,d∈out2) (hn:0<=idF p.fs i->(p.fs.getD (idF p.fs i).toNat Fm0).dirty=true->∃ d∈out2,d.pg=i) (a:Nat) (ha:a<i+1) (h0:0<=idF p.fs a) (h1:(p.fs.getD (idF p.fs a).toNat Fm0).dirty=true)=>(by
  rcases JZ a i with h2 | h2
  ·obtain ⟨d,hd,he⟩:=hof a h2 h0 h1
   exact⟨d,hs d hd,he⟩
  ·obtain rfl:a = i:=by omega
   exact hn h0 h1:∃ d∈out2,d.pg=a)
 have hfi:64<=i->DyL p out:=fun h=>hfin out (by omega) hto fun _ a ha=>hof a (by omega)
 rcases QaY p.fs i with h | ⟨j,hj,h,hpg⟩
 all_goals rw[h] at c3
 ·rw [h] at hnx
  refine rn F ?_
  repeat' (first
   | with_reducible exact⟨⟩
   | (refine sB F ?_ ?_<;>intro hZ)
   | refine vp F (c3) ?_)
  ·exact⟨⟨i+1,out,by omega,by omega,hto,hnx out (fun d h=>h) (fun h=>by omega)⟩,by dsimp only; omega,(gc [0,1])⟩
  ·exact⟨rfl,rfl,out,rfl,hfi (by omega)⟩
 ·have hg:=Qb0 p.fs j hj
  have hb:(out.length+1)*24<=140737488355328:=by omega
  have hfm:p.fs.getD j Fm0∈p.fs:=by rw[Qd _ _ hj]; exact Jg hj
  rw[h,Jj] at hnx
  generalize p.fs.getD j Fm0=f at *
  have F:=(Jd @hg @hb)
  refine rn F ?_
  repeat' (first
   | with_reducible exact⟨⟩
   | (refine sB F ?_ ?_<;>intro hZ)
   | refine vp F (c3) ?_
   | (refine Qc (id:=9) [0,1,2,3,4,5,6,7,8,9,10,11,12,13,14,15] [⟨[16],[16],17,[1,2,3,4,5,6,7,8,9,10,11,12,13,14,15],[]⟩,⟨[],[],18,[],[]⟩] (by kernel_rfl) (by kernel_rfl) ?_; refine rn F ?_))
  ·exact ⟨⟨i + 1,out ++ [⟨i,f.rc,f.pg.lsn⟩],by omega,by simp; omega,fun d hd=>by
   rcases Ji.1 hd with hd | hd
   ·exact hto d hd
   ·rw[Jh.1 hd]; exact⟨f,hfm,by first | assumption | simp_all,hpg,rfl⟩,hnx _ (fun d h=>Jl _ h) (fun _ _=>⟨⟨i,f.rc,f.pg.lsn⟩,by simp,rfl⟩)⟩,by dsimp only; omega,by dsimp only; rw[Jf]; exact(gc [0,3])⟩
  ·exact⟨⟨i+1,out,by omega,by omega,hto,hnx out (fun d h=>h) (fun _ h=>by simp_all)⟩,by dsimp only; omega,(gc [0,1])⟩
  ·exact⟨rfl,rfl,out,rfl,hfi (by omega)⟩
def QlJ(h:(d,true)=QaH l n):d∈l/\d.pg=n:=by
 unfold QaH at h
 split at h
 ·rename_i e he
  obtain rfl:d=e:=by simpa using congrArg Prod.fst h
  exact⟨JS he,by simpa using J7 he⟩
 ·simp at h
def Qgp(h:(d,false)=QaH l n):∀ e∈l,e.pg≠n:=by
 unfold QaH at h
 split at h
 ·simp at h
 ·rename_i he
  rw[J3] at he
  intro e h1
  simpa using he e h1
structure OfI(k:Kn)(n m:Nat)(out:List Dt):Prop where
 dl:∀ d∈out,(∃ e∈k.la,e.pg=d.pg/\e.last=d.last)\/∃ f∈k.pl.fs,f.dirty=true/\f.pg.id=d.pg/\f.pg.lsn=d.last
 la:∀ e∈k.la,0<=e.pg->e.pg<n->∃ d∈out,d.pg=e.pg
 fs:∀ f∈k.pl.fs,f.dirty=true->f.pg.id<m->∃ d∈out,d.pg=f.pg.id
def OfI.ex (h:OfI k n m out) (hd:(∃ e ∈ k.la,e.pg = d.pg/\e.last = d.last)\/∃ f ∈ k.pl.fs,f.dirty = true/\f.pg.id = d.pg/\f.pg.lsn = d.last):OfI k n m (out ++ [d]) :=
 ⟨fun e he=>by
   rcases Ji.1 he with he | he
   ·exact h.dl e he
   ·rw[Jh.1 he]; exact hd,
  fun e a b c=>by obtain⟨x,h1,h2⟩:=h.la e a b c; exact⟨x,Jl _ h1,h2⟩,
  fun e a b c=>by obtain⟨x,h1,h2⟩:=h.fs e a b c; exact⟨x,Jl _ h1,h2⟩⟩
def OfI.hit(h:OfI k n m out)(hd:(d,true)=QaH k.la n):OfI k (n+1) m (out++[d]):=by
 obtain⟨h1,h2⟩:=QlJ hd
 have:=h.ex (d:=d) (.inl ⟨d,h1,rfl,rfl⟩)
 refine⟨this.dl,fun e a b c=>?_,this.fs⟩
 by_cases hn:e.pg=n
 ·exact⟨d,by simp,by rw[h2,hn]⟩
 ·exact this.la e a b (by omega)
def OfI.miss(h:OfI k n m out)(hd:(d,false)=QaH k.la n):OfI k (n+1) m out:=
 ⟨h.dl,fun e a b c=>h.la e a b (by have:=Qgp hd e a; omega),h.fs⟩
def OfI.up(h:OfI k n m out)(hv:plB k.pl=true)(hl:DyL k.pl l)(hs:∀ d∈l,d.pg=m->∃ e∈out,e.pg=m):OfI k n (m+1) out:=
 ⟨h.dl,h.la,fun f a b c=>by
  by_cases hn:f.pg.id=m
  ·obtain ⟨d,h1,h2⟩:=hl.of hv f a b
   rw[hn] at h2 |-
   exact hs d h1 h2
  ·exact h.fs f a b (by omega)⟩
structure OfL(k:Kn) where
 i:Nat
 out:List Dt
 hi:(i:Int)<=k.pg
 ho:out.length<=65*i
 h:OfI k i i out
structure OfJ(k:Kn)(i:Nat)(l:List Dt) where
 j:Nat
 out:List Dt
 hj:j<=l.length
 ho:out.length<=65*i+1+j
 h:OfI k (i+1) i out
 s:∀ d∈l.take j,d.pg=i->∃ e∈out,e.pg=i
def OfJ.nx(r:OfJ k i l)(hj:r.j<l.length)(out2:List Dt)(hs:∀ d∈r.out,d∈out2)(hn:(l.getD r.j Dt0).pg=i->∃ e∈out2,e.pg=i):∀ d∈l.take (r.j+1),d.pg=i->∃ e∈out2,e.pg=i:=fun d hd he=>by
 rw[Jn hj] at hd
 rcases Ji.1 hd with hd | hd
 ·obtain ⟨x,h1,h2⟩:=r.s d hd he
  exact⟨x,hs x h1,h2⟩
 ·rw [Jh.1 hd] at he
  exact hn (by rw[Qd _ _ hj]; exact he)
def QFM(k:Kn)(a:Cp×Int):Prop:=a.1.sm/\(a.2=0->CkOf k a.1)
def QAC(k:Kn)(h:k.sm):VCalls prog 105 [.agg k.d] [] (QG QGk (QFM k)):=by
 refine dk Tryz.func105 ?_
 have c1:=QbN k h
 obtain⟨h1,h2,h3,h4,h5,h6⟩:=h
 have c2:=fun n=>Qge k (by omega) n
 have c3:=Qwv k.pl (by omega)
 (unfold Tryz.f105; refine rn trivial ?_)
 cases hv:kB k
 ·rw [hv] at c1
  refine rn F ?_
  repeat' (first
   | with_reducible exact⟨⟩
   | refine vp F (c1) ?_)
  exact⟨rfl,rfl,(Cp0,15),rfl,QEF,fun h=>by simp at h⟩
 rw[hv] at c1
 obtain⟨⟨vk,_,vla⟩,v2⟩:=(⟨QDP hv,QtF hv⟩:VP k/\V2 k)
 have hpg:=vk.1
 have hpl:=vk.2.2.2.1
 have hend:∀ (i:Nat) out,(i:Int)=k.pg->OfI k i i out->CkOf k ⟨k.pg,k.nx,k.tx,out,k.ix⟩:=fun i out hi ho=>⟨rfl,rfl,rfl,rfl,ho.dl,fun e he=>by
  obtain⟨j,hj,rfl⟩:=Jb.1 he
  unfold laB at vla
  rw[Jp] at vla
  have:=(Qnk _ _ _).1 (vla j (Ju.2 hj))
  rw[Qd _ _ hj] at this
  exact ho.la _ he this.1 (by omega),fun f hf hd=>by
  obtain⟨j,hj,rfl⟩:=Jb.1 hf
  have:=(v2.frs j hj).1
  rw[Qd _ _ hj] at this
  exact ho.fs _ hf hd (by omega)⟩
 refine rn F ?_
 repeat' (first
  | with_reducible exact⟨⟩
  | refine vp F (c1) ?_)
 refine VLoop.nilOwnC 2 3 171 3 rfl rfl ?_
 refine rn trivial ?_
 refine Qi (fun s:OfL k=>⟨62,0,[(5,.int .i64 s.i),(4,.ptr 2 0),(2,.ptr 1 0),(1,.ptr 0 0)],[⟨41,true,k.d⟩,⟨193,true,Zc⟩,⟨193,true,[.int .i64 k.pg,.int .i64 k.nx,.pv (.sl (fz Qaf k.tx)),.own 3 3 0 s.out.length,.pv (.sl (fz Qcc k.ix))]⟩,⟨171,true,cells QcM s.out⟩]⟩) (fun s=>64-s.i) ⟨0,[],by omega,by simp,⟨fun d h=>by simp at h,fun e _ _ h=>by omega,fun f hf hd h=>by
  obtain⟨j,hj,rfl⟩:=Jb.1 hf
  have:=Qnw (Qld hpl hj)
  rw[Qd _ _ hj] at this
  omega⟩⟩ (gc [0,1,2,3]) ?_
 rintro⟨i,out,hi,ho,hI⟩
 dsimp only
 unfold Zc
 have hb1:(out.length+1)*24<=140737488355328:=by omega
 by_cases hc:(i:Int)<k.pg
 rotate_left
 ·skip
  have F:=@hc
  refine rn F ?_
  exact⟨rfl,rfl,(⟨k.pg,k.nx,k.tx,out,k.ix⟩,0),rfl,⟨h4,by dsimp only; omega,h5⟩,fun _=>hend i out (by omega) hI⟩
 have F:=(Jd @hb1 @hc)
 refine rn F ?_
 refine Qo (c2 i) rfl ?_
 rintro⟨d,b2⟩ hdl
 have hdl2:=hdl
 cases b2
 case' false=>have hI2:=hI.miss hdl
 case' true=>have hI2:=hI.hit hdl
 all_goals clear hdl hdl2
 all_goals
  have F:=(Jd @hb1 @hc)
  refine rn F ?_
  refine Qo c3 rfl ?_
  rintro l hl
  have hll:=hl.le
  have F:=(Jd @hb1 @hc)
  (refine rn F ?_; try with_reducible exact⟨⟩)
 all_goals
  first
   | refine Qi (fun s:OfJ k i l=>⟨62,0,[(46,.int .i64 s.j),(45,.int .i64 l.length),(44,.pv (.sl (fz QcM l))),(5,.int .i64 i),(4,.ptr 2 0),(2,.ptr 1 0),(1,.ptr 0 0)],[⟨41,true,k.d⟩,⟨193,true,Zc⟩,⟨193,true,[.int .i64 k.pg,.int .i64 k.nx,.pv (.sl (fz Qaf k.tx)),.own 3 3 0 s.out.length,.pv (.sl (fz Qcc k.ix))]⟩,⟨171,true,cells QcM s.out⟩]⟩) (fun s=>l.length-s.j) ⟨0,out++[d],Jk _,by rw[Jf]; simp; omega,hI2,fun d h=>by simp at h⟩ (by dsimp only; rw[Jf]; exact(gc [0,1,2,6])) ?_
   | refine Qi (fun s:OfJ k i l=>⟨62,0,[(46,.int .i64 s.j),(45,.int .i64 l.length),(44,.pv (.sl (fz QcM l))),(5,.int .i64 i),(4,.ptr 2 0),(2,.ptr 1 0),(1,.ptr 0 0)],[⟨41,true,k.d⟩,⟨193,true,Zc⟩,⟨193,true,[.int .i64 k.pg,.int .i64 k.nx,.pv (.sl (fz Qaf k.tx)),.own 3 3 0 s.out.length,.pv (.sl (fz Qcc k.ix))]⟩,⟨171,true,cells QcM s.out⟩]⟩) (fun s=>l.length-s.j) ⟨0,out,Jk _,by omega,hI2,fun d h=>by simp at h⟩ (gc [0,1,2,3]) ?_
  rintro⟨j,o2,hj,ho2,hJ,hs2⟩
  dsimp only
  unfold Zc
  have hb2:(o2.length+1)*24<=140737488355328:=by omega
  have hnx:=fun h=>OfJ.nx ⟨j,o2,hj,ho2,hJ,hs2⟩ h
  dsimp only at hnx
  by_cases hjl:j<l.length
  rotate_left
  ·have hup:=hJ.up hpl hl (by rw [Jt (by omega)] at hs2; exact hs2)
   have F:=@hjl
   refine rn F ?_
   exact⟨⟨i+1,o2,by omega,by omega,hup⟩,by dsimp only; omega,(gc [0,1,2,3])⟩
  have hy:=QeQ l j hjl
  have hto:=hl.to (l.getD j Dt0) (by rw[Qd _ _ hjl]; exact Jg hjl)
  replace hnx:=hnx hjl
  generalize l.getD j Dt0=x at *
  have F:=(Jd @hy (Jd @hb2 @hjl))
  refine rn F ?_
  repeat' (first
   | with_reducible exact⟨⟩
   | (refine sB F ?_ ?_<;>intro hZ))
 all_goals first
  | exact⟨⟨j+1,o2,hjl,by omega,hJ,hnx o2 (fun d h=>h) (fun h=>absurd h (by assumption))⟩,by dsimp only; omega,(gc [0,1,2,3])⟩
  | exact⟨⟨j+1,o2++[x],hjl,by simp; omega,hJ.ex (.inr hto),hnx _ (fun d h=>Jl _ h) (fun _=>⟨x,by simp,by assumption⟩)⟩,by dsimp only; omega,by dsimp only; rw[Jf]; exact(gc [0,1,2,6])⟩
  | skip
end
def Qvn(es:List E)(a:Int):Prop:=∃ e∈es,e.tx=a/\(e.kind=3\/e.kind=5)
def abE(es:List E)(a:Int):Prop:=∃ e∈es,e.tx=a/\e.kind=4
def Qb7(es:List E)(a:Int):Int:=es.foldl (fun n e=>if e.tx=a then e.lsn else n) 0
def Qap(es:List E)(p:Int):Int:=es.foldl (fun n e=>if (e.kind=1\/e.kind=2)/\e.c.pg=p then e.lsn else n) 0
def QdO(es:List E)(a:Int):List Int:=es.foldl (fun l e=>if e.tx=a then (if e.kind=1 then l++[e.lsn] else if e.kind=2 then l.filter (fun x=>decide (x≠e.ref)) else l) else l) []
def QaQ(es:List E)(e:E)(a:Int):Qb7 (es++[e]) a=if e.tx=a then e.lsn else Qb7 es a:=by unfold Qb7; rw[JB]; rfl
def Qan(es:List E)(e:E)(p:Int):Qap (es++[e]) p=if (e.kind=1\/e.kind=2)/\e.c.pg=p then e.lsn else Qap es p:=by unfold Qap; rw[JB]; rfl
def QdC(es:List E)(e:E)(a:Int):QdO (es++[e]) a=if e.tx=a then (if e.kind=1 then QdO es a++[e.lsn] else if e.kind=2 then (QdO es a).filter (fun x=>decide (x≠e.ref)) else QdO es a) else QdO es a:=by unfold QdO; rw[JB]; rfl
def Qdb(es:List E)(e:E)(a:Int):Qvn (es++[e]) a ↔ Qvn es a\/(e.tx=a/\(e.kind=3\/e.kind=5)):=by
 unfold Qvn
 constructor
 ·rintro ⟨x,hx,h⟩
  rcases Ji.1 hx with hx | hx
  ·exact .inl ⟨x,hx,h⟩
  ·rw[Jh.1 hx] at h; exact .inr h
 ·rintro (⟨x,hx,h⟩ | h)
  ·exact⟨x,Jl _ hx,h⟩
  ·exact⟨e,by simp,h⟩
def QoY(es:List E)(e:E)(a:Int):abE (es++[e]) a ↔ abE es a\/(e.tx=a/\e.kind=4):=by
 unfold abE
 constructor
 ·rintro ⟨x,hx,h⟩
  rcases Ji.1 hx with hx | hx
  ·exact .inl ⟨x,hx,h⟩
  ·rw[Jh.1 hx] at h; exact .inr h
 ·rintro (⟨x,hx,h⟩ | h)
  ·exact⟨x,Jl _ hx,h⟩
  ·exact⟨e,by simp,h⟩
def Qcx {α:Type} {P:List α->Prop} (h0:P []) (hs:∀ l a,P l->P (l ++ [a])):∀ l,P l:=fun l=>by
 have:∀ n,∀ l:List α,l.length = n->P l:=fun n=>by
  induction n with
  | zero=>intro l h; rw[JN h]; exact h0
  | succ n ih =>
    intro l h
    have hne:l≠[]:=fun q=>by rw[q] at h; simp at h
    rw[<- List.dropLast_concat_getLast hne]
    exact hs _ _ (ih _ (by rw[List.length_dropLast]; omega))
 exact this _ l rfl
def Qxl(es:List E)(h0:0<=n)(p:Int)(h:∀ x∈es,x.lsn<n):Qap es p<=n:=by
 revert h
 refine Qcx (P:=fun es=>(∀ x∈es,x.lsn<n)->Qap es p<=n) (fun _=>h0) (fun l a ih h=>?_) es
 rw[Qan]
 split
 ·have:=h a (by simp); omega
 ·exact ih fun x hx=>h x (Jl _ hx)
def Qxk(es:List E)(h0:0<n)(p:Int)(h:∀ x∈es,x.lsn<n):Qap es p<n:=by
 revert h
 refine Qcx (P:=fun es=>(∀ x∈es,x.lsn<n)->Qap es p<n) (fun _=>h0) (fun l a ih h=>?_) es
 rw[Qan]
 split
 ·exact h a (by simp)
 ·exact ih fun x hx=>h x (Jl _ hx)
def QlG(es:List E)(hl:∀ x∈es,1<=x.lsn)(h:∃ x∈es,x.tx=a):1<=Qb7 es a:=by
 revert hl h
 refine Qcx (P:=fun es=>(∀ x∈es,1<=x.lsn)->(∃ x∈es,x.tx=a)->1<=Qb7 es a) (fun _ h=>by obtain⟨x,hx,_⟩:=h; simp at hx) (fun l e ih h hx=>?_) es
 rw[QaQ]
 split
 ·exact h e (by simp)
 ·rename_i hne
  obtain⟨x,hx,hxa⟩:=hx
  rcases Ji.1 hx with hx | hx
  ·exact ih (fun y hy=>h y (Jl _ hy)) ⟨x,hx,hxa⟩
  ·rw[Jh.1 hx] at hxa; exact absurd hxa hne
def QpR(es:List E)(h:∀ x∈es,x.tx≠a):Qb7 es a=0:=by
 revert h
 refine Qcx (P:=fun es=>(∀ x∈es,x.tx≠a)->Qb7 es a=0) (fun _=>rfl) (fun l e ih h=>?_) es
 rw[QaQ,if_neg (h e (by simp))]
 exact ih fun x hx=>h x (Jl _ hx)
def QpL(es:List E)(h:∀ x∈es,x.tx≠a):QdO es a=[]:=by
 revert h
 refine Qcx (P:=fun es=>(∀ x∈es,x.tx≠a)->QdO es a=[]) (fun _=>rfl) (fun l e ih h=>?_) es
 rw[QdC,if_neg (h e (by simp))]
 exact ih fun x hx=>h x (Jl _ hx)
structure TxOk(es:List E)(t:Tx):Prop where
 n:t.n=Qb7 es t.id
 l:t.l=QdO es t.id
 ne:¬ Qvn es t.id
 ab:t.st=3 ↔ abE es t.id
def TxOk.other(h:TxOk es t)(hne:e.tx≠t.id):TxOk (es++[e]) t:=
 ⟨by rw [QaQ,if_neg hne]; exact h.n,by rw [QdC,if_neg hne]; exact h.l,by
  rw[Qdb]; rintro(q | q)
  ·exact h.ne q
  ·exact hne q.1,by
  rw[QoY,h.ab]
  exact⟨.inl,fun q=>q.elim id fun q=>absurd q.1 hne⟩⟩
def TxOk.fresh(h:∀ x∈es,x.tx≠a):TxOk es ⟨a,1,0,0,[],[]⟩:=
 ⟨(QpR es h).symm,(QpL es h).symm,fun⟨x,hx,q,_⟩=>h x hx q,⟨fun q=>by simp at q,fun⟨x,hx,q,_⟩=>absurd q (h x hx)⟩⟩
def QrX(t:Tx):(QF t).n=t.n:=by unfold QF; split<;>rfl
def QrY(t:Tx):(QF t).l=t.l:=by unfold QF; split<;>rfl
def QrZ(t:Tx):(QF t).st=3 ↔ t.st=3:=by
 unfold QF; split
 ·rename_i h; simp; omega
 ·exact Iff.rfl
def QrN(h:Qbw l=true)(ht:t∈l)(hu:u∈l)(he:t.id=u.id):t=u:=by
 have hs:=Qd2 h
 obtain⟨i,hi,rfl⟩:=Jb.1 ht
 obtain⟨j,hj,rfl⟩:=Jb.1 hu
 rw[JH] at hs
 rcases JL i j with h3 | h3 | h3
 ·have:=hs i j (by simpa using hi) (by simpa using hj) h3
  rw[Js,Js] at this
  omega
 ·subst h3; rfl
 ·have:=hs j i (by simpa using hj) (by simpa using hi) h3
  rw[Js,Js] at this
  omega
def QnV(h:Qbw l=true)(ht:t∈l):1<=t.id:=by
 obtain⟨i,hi,rfl⟩:=Jb.1 ht
 have:=Qbp h hi
 simp only[Tx.okB,Tx.hdB,Jc,decide_eq_true_eq] at this
 omega
def Qnm(h:Qbw l=true)(hi:i<l.length):idT l l[i].id=i:=by
 rcases QB l l[i].id with hn | ⟨j,hj,h1,h2⟩
 ·have:=(Qj2 (l:=l) (a:=l[i].id)).2 (J4.2 ⟨l[i],Jg hi,rfl⟩)
  omega
 ·rw [h1]
  have hs:=Qd2 h
  rw[JH] at hs
  rcases JL i j with h3 | h3 | h3
  ·have:=hs i j (by simpa using hi) (by simpa using hj) h3
   rw[Js,Js] at this
   omega
  ·omega
  ·have:=hs j i (by simpa using hj) (by simpa using hi) h3
   rw[Js,Js] at this
   omega
def QjV(h:(QU l e).2=0):Qbw l=true/\e.okB=true:=by
 unfold QU at h
 split at h
 ·simp at h
 rename_i q1
 split at h
 ·simp at h
 rename_i q2
 exact⟨by simpa using q1,by simpa using q2⟩
def Qto(h:(QU l e).2=0)(ht:e.tx≠0):∃ i,∃ hi:i<l.length,idT l e.tx=i/\l[i].id=e.tx/\e.ptx=l[i].n/\(e.kind=2->e.ref∈l[i].l) /\
 (((e.kind=3\/e.kind=5)/\(QU l e).1=Qki l e.tx)\/((e.kind=1\/e.kind=2\/e.kind=4)/\(QU l e).1=l.set i (QF (Qcj l[i] e)))):=by
 obtain⟨h1,h2⟩:=QjV h
 have hk:=QeH h2 ht
 unfold QU at h |-
 rw[if_neg (by rw[h1]; decide),if_neg (by rw[h2]; decide),if_neg ht] at h |-
 rcases QB l e.tx with hn | ⟨i,hi,hid,he⟩
 ·rw[if_pos (by omega)] at h; simp at h
 rw[if_neg (by omega)] at h |-
 rw[hid,Jj,Qd l i hi] at h |-
 unfold Qlw at h |-
 split at h
 ·simp at h
 rename_i q1
 refine⟨i,hi,rfl,he,by omega,fun q=>?_,?_⟩
 ·by_cases hr:e.ref ∈ l[i].l
  ·exact hr
  ·exact absurd (.inr ⟨q,hr⟩) q1
 rw[if_neg q1]
 split
 ·rename_i q; exact .inl ⟨q,rfl⟩
 ·rename_i q; exact .inr ⟨by omega,rfl⟩
def mem_remS:t∈Qki l a ↔ t∈l/\t.id≠a:=by
 unfold Qki QdP
 rw[JC]
 simp
def Qou{l:List Tx}{i:Nat}{t u:Tx}(h:t∈l.set i u):(∃ j,∃ hj:j<l.length,j≠i/\l[j]=t)\/(t=u/\i<l.length):=by
 obtain⟨j,hj,rfl⟩:=Jb.1 h
 rw[Jo] at hj
 by_cases hij:i=j
 ·subst hij; right; rw[JE]; exact⟨rfl,hj⟩
 ·left; rw[JI hij]; exact⟨j,hj,fun q=>hij q.symm,rfl⟩
def QnZ{l:List Tx}(hi:i<l.length):u∈l.set i u:=by
 rw[Jb]; exact⟨i,by rw[Jo]; exact hi,by rw[JE]⟩
def QiB{l:List Tx}{i j:Nat}{u:Tx}(hj:j<l.length)(hij:i≠j):l[j]∈l.set i u:=by
 rw[Jb]; exact⟨j,by rw[Jo]; exact hj,by rw[JI hij]⟩
def QzW (hok:∀ t ∈ l,TxOk es t) (hall:∀ x ∈ es,0 < x.tx->(∃ t ∈ l,t.id = x.tx)\/Qvn es x.tx) (h:(QU l e).2 = 0):
 (∀ t∈(QU l e).1,TxOk (es++[e]) t)/\∀ x∈es++[e],0<x.tx->(∃ t∈(QU l e).1,t.id=x.tx)\/Qvn (es++[e]) x.tx:=by
 obtain⟨h1,h2⟩:=QjV h
 have hend:∀ a,Qvn es a->Qvn (es++[e]) a:=fun a q=>(Qdb es e a).2 (.inl q)
 by_cases ht:e.tx=0
 ·have:(QU l e).1 = l:=QiN h ht
  rw[this]
  refine⟨fun t q=>(hok t q).other (by have:=QnV h1 q; omega),fun x hx h0=>?_⟩
  rcases Ji.1 hx with hx | hx
  ·exact(hall x hx h0).imp id (hend _)
  ·rw[Jh.1 hx] at h0; omega
 obtain⟨i,hi,hid,he,hp,hr,hc⟩:=Qto h ht
 have hne:∀ t∈l,t≠l[i]->e.tx≠t.id:=fun t q q2 q3=>q2 (QrN h1 q (Jg hi) (by rw[he]; exact q3.symm))
 have ho:=hok l[i] (Jg hi)
 rcases hc with⟨hk,hc⟩ | ⟨hk,hc⟩
 ·rw [hc]
  refine⟨fun t q=>?_,fun x hx h0=>?_⟩
  ·obtain ⟨q1,q2⟩:=mem_remS.1 q
   exact(hok t q1).other fun q3=>q2 q3.symm
  ·by_cases hxe:x.tx = e.tx
   ·right; rw[hxe]; exact(Qdb _ _ _).2 (.inr ⟨rfl,hk⟩)
   ·rcases Ji.1 hx with hx | hx
    ·rcases hall x hx h0 with ⟨t,q1,q2⟩ | q
     ·exact .inl ⟨t,mem_remS.2 ⟨q1,by omega⟩,q2⟩
     ·exact .inr (hend _ q)
    ·rw[Jh.1 hx] at hxe; exact absurd rfl hxe
 ·rw [hc]
  have hnid:(Qcj l[i] e).id = l[i].id:=by       unfold Qcj; repeat' split
                                                all_goals rfl
  have htn:(QF (Qcj l[i] e)).id=e.tx:=by rw[QiA,hnid,he]
  refine⟨fun t q=>?_,fun x hx h0=>?_⟩
  ·rcases Qou q with ⟨j,hj,hji,rfl⟩ | ⟨rfl,_⟩
   ·refine (hok _ (Jg hj)).other fun q=>hji ?_
    have e1:=Qnm h1 hj
    rw[<- q,hid] at e1
    omega
   ·refine ⟨?_,?_,?_,?_⟩
    ·rw [htn,QrX,QaQ,if_pos rfl]
     unfold Qcj; repeat' split
     all_goals rfl
    ·rw [htn,QrY,QdC,if_pos rfl,<- he,<- ho.l]
     unfold Qcj
     repeat' split
     all_goals first | rfl | (exfalso; omega)
    ·rw [htn,Qdb]
     rintro(q | q)
     ·exact ho.ne (by rw[he]; exact q)
     ·omega
    ·rw [htn,QrZ,QoY]
     have hab:=ho.ab
     rw[he] at hab
     unfold Qcj
     split
     ·dsimp only; rw[hab]; exact⟨.inl,fun q=>q.elim id fun q=>by omega⟩
     split
     ·dsimp only; rw[hab]; exact⟨.inl,fun q=>q.elim id fun q=>by omega⟩
     ·dsimp only; exact⟨fun _=>.inr ⟨rfl,by omega⟩,fun _=>rfl⟩
  ·by_cases hxe:x.tx = e.tx
   ·exact .inl ⟨_,QnZ hi,by rw[htn,hxe]⟩
   ·rcases Ji.1 hx with hx | hx
    ·rcases hall x hx h0 with ⟨t,q1,q2⟩ | q
     ·obtain ⟨j,hj,rfl⟩:=Jb.1 q1
      by_cases hij:i=j
      ·subst hij; rw[he] at q2; exact absurd q2.symm hxe
      ·exact .inl ⟨_,QiB hj hij,q2⟩
     ·exact .inr (hend _ q)
    ·rw[Jh.1 hx] at hxe; exact absurd rfl hxe
structure Cor(es:List E)(pg nx:Int)(tx:List Tx)(ix:List Rw)(L:Int->Int->Prop):Prop where
 pgr:1<=pg/\pg<=64
 ids:∀ e∈es,e.tx<nx
 ok:∀ t∈tx,TxOk es t
 all:∀ x∈es,0<x.tx->(∃ t∈tx,t.id=x.tx)\/Qvn es x.tx
 len:(ix.length:Int)=pg
 row:∀ p:Nat,(p:Int)<pg->(ix.getD p Rw0).lsn<=Qap es p/\((∀ n,¬ L p n)->(ix.getD p Rw0).lsn=Qap es p)
 la:∀ p n,L p n->n=Qap es p
 lt:∀ (p:Nat) n,L p n->(ix.getD p Rw0).lsn<n
 w7:∀ e∈es,e.kind=7->e.ref<=(ix.getD e.c.pg.toNat Rw0).lsn
def Cor.weak(h:Cor es pg nx tx ix L)(hn:nx<=nx')(h1:∀ p n,L' p n->L p n)(h2:∀ p,(∀ n,¬ L' p n)->∀ n,¬ L p n):Cor es pg nx' tx ix L':=
 ⟨h.pgr,fun e he=>JR (h.ids e he) hn,h.ok,h.all,h.len,fun p hp=>⟨(h.row p hp).1,fun q=>(h.row p hp).2 (h2 p q)⟩,fun p n q=>h.la p n (h1 p n q),fun p n q=>h.lt p n (h1 p n q),h.w7⟩
def Qck(h:(Qbq ix e).2=0):(e.kind≠7/\(Qbq ix e).1=ix)\/(e.kind=7/\e.okB=true/\e.c.pg<ix.length/\(Qbq ix e).1=ix.set e.c.pg.toNat ⟨if e.ref > (ix.getD e.c.pg.toNat Rw0).lsn then e.ref else (ix.getD e.c.pg.toNat Rw0).lsn,(ix.getD e.c.pg.toNat Rw0).im,(ix.getD e.c.pg.toNat Rw0).at_⟩):=by
 unfold Qbq at h |-
 split at h
 ·simp at h
 rename_i q1
 split at h
 ·simp at h
 rename_i q2
 rw[if_neg q1,if_neg q2]
 split at h
 ·rename_i q3; rw[if_pos q3]; exact .inl ⟨q3,rfl⟩
 rename_i q3
 rw[if_neg q3]
 split at h
 ·simp at h
 rename_i q4
 rw[if_neg q4]
 exact .inr ⟨by simpa using q3,by simpa using q2,by omega,rfl⟩
def Cor.add(hc:Cor es pg nx tx ix L)(he7:e.kind=7->e.ref=Qap es e.c.pg)(hlt:∀ x∈es,x.lsn<e.lsn)(h0:1<=e.lsn)(ht:(QU tx e).2=0)(hr:(Qbq ix e).2=0)(hn:nx<=nx')(hen:e.tx<nx')(h1:∀ p n,L' p n->((e.kind=1\/e.kind=2)/\p=e.c.pg/\n=e.lsn)\/(L p n/\((e.kind=1\/e.kind=2)->p≠e.c.pg)))(h2:∀ p,(∀ n,¬ L' p n)->((∀ n,¬ L p n)\/(e.kind=7/\p=e.c.pg))/\((e.kind=1\/e.kind=2)->p≠e.c.pg))(h3:e.kind=7->∀ n,¬ L' e.c.pg n):
 Cor (es++[e]) pg nx' (QU tx e).1 (Qbq ix e).1 L':=by
 obtain⟨t1,t2⟩:=QzW hc.ok hc.all ht
 have hmon:∀ p:Nat,(ix.getD p Rw0).lsn<=((Qbq ix e).1.getD p Rw0).lsn:=fun p=>by
  rcases Qck hr with⟨_,q⟩ | ⟨_,_,ql,q⟩
  ·rw[q]; exact Jz _
  ·rw [q]
   by_cases hpe:e.c.pg.toNat=p
   ·subst hpe
    by_cases hpl:e.c.pg.toNat<ix.length
    ·rw [Ja (l:=ix.set _ _),JK hpl]
     dsimp only[JX]
     split<;>omega
    ·rw[List.set_eq_of_length_le (by omega)]; exact Jz _
   ·rw [Ja (l:=ix.set _ _),JP hpe,<- Ja]
    exact Jz _
 refine⟨hc.pgr,fun x hx=>?_,t1,t2,?_,fun p hp=>?_,fun p n q=>?_,fun p n q=>?_,fun x hx h7=>?_⟩
 ·rcases Ji.1 hx with hx | hx
  ·exact JR (hc.ids x hx) hn
  ·rw[Jh.1 hx]; exact hen
 ·rcases Qck hr with ⟨_,q⟩ | ⟨_,_,_,q⟩<;>rw [q]
  ·exact hc.len
  ·rw[Jo]; exact hc.len
 ·obtain ⟨r1,r2⟩:=hc.row p hp
  rw[Qan]
  rcases Qck hr with⟨q7,q⟩ | ⟨q7,qo,ql,q⟩
  ·rw [q]
   split
   ·rename_i hx
    refine⟨Kd r1 (Qxl es (by omega) p hlt),fun hq=>?_⟩
    exact absurd hx.2.symm ((h2 p hq).2 hx.1)
   ·refine ⟨r1,fun hq=>r2 ?_⟩
    rcases(h2 p hq).1 with h | h
    ·exact h
    ·exact absurd h.1 q7
  ·rw [if_neg (by omega),q]
   have hpg:=QeF qo (.inr (.inr q7))
   have hlen:=hc.len
   by_cases hpe:e.c.pg=p
   ·have e1:e.c.pg.toNat = p:=by omega
    rw[e1,Ja,JK (by omega)]
    dsimp only[JX]
    have e2:=he7 q7
    rw[hpe] at e2
    rw[e2]
    split
    ·exact⟨Jz _,fun _=>rfl⟩
    ·exact⟨r1,fun _=>by omega⟩
   ·have e1:e.c.pg.toNat ≠ p:=by omega
    rw[Ja,JP e1,<- Ja]
    refine⟨r1,fun hq=>r2 ?_⟩
    rcases(h2 p hq).1 with h | h
    ·exact h
    ·exact absurd h.2.symm hpe
 ·rw [Qan]
  rcases h1 p n q with⟨q1,q2,q3⟩ | ⟨q1,q2⟩
  ·rw[if_pos ⟨q1,q2.symm⟩,q3]
  ·rw[if_neg (fun h=>q2 h.1 h.2.symm)]; exact hc.la p n q1
 ·rcases h1 p n q with ⟨q1,q2,q3⟩ | ⟨q1,q2⟩
  ·have e1:(Qbq ix e).1 = ix:=by
    rcases Qck hr with⟨_,g⟩ | ⟨g,_⟩
    ·exact g
    ·omega
   rw[e1]
   by_cases hp:(p:Int)<pg
   ·have:=(hc.row p hp).1
    have:=Qxk es (n:=e.lsn) (by omega) p hlt
    omega
   ·rw [Ja,JD (by have:=hc.len; omega)]
    show(0:Int)<n
    omega
  ·rcases Qck hr with ⟨_,g⟩ | ⟨g7,_,_,g⟩
   ·rw[g]; exact hc.lt p n q1
   ·have hne:e.c.pg.toNat ≠ p:=fun h=>by
     have hpg:=QeF (QjV ht).2 (.inr (.inr g7))
     have:(p:Int)=e.c.pg:=by omega
     rw[this] at q
     exact h3 g7 n q
    rw[g,Ja,JP hne,<- Ja]
    exact hc.lt p n q1
 ·rcases Ji.1 hx with hx | hx
  ·exact Kd (hc.w7 x hx h7) (hmon _)
  ·rw [Jh.1 hx] at h7 |-
   rcases Qck hr with⟨g,_⟩ | ⟨_,qo,ql,g⟩
   ·exact absurd h7 g
   ·have hpg:=QeF qo (.inr (.inr h7))
    rw[g,Ja,JK (by omega)]
    dsimp only[JX]
    split<;>omega
def LD(dl:List Dt)(p n:Int):Prop:=∃ d∈dl,d.pg=p/\d.last=n
structure EnOk(h:List E)(e:E):Prop where
 ptx:0<e.tx->e.ptx=Qb7 h e.tx
 ne:0<e.tx->¬ Qvn h e.tx
 ab:0<e.tx->abE h e.tx->e.kind=2\/e.kind=5
 en:e.kind=5->abE h e.tx/\QdO h e.tx=[]
 ppg:(e.kind=1\/e.kind=2)->e.ppg=Qap h e.c.pg
 un:e.kind=2->e.ref∈QdO h e.tx/\∃ x∈h,x.lsn=e.ref/\x.kind=1/\x.tx=e.tx/\e.c=⟨x.c.pg,x.c.sl,x.c.a,x.c.b⟩/\∀ y∈h,y.lsn∈QdO h e.tx->e.ref<y.lsn->¬ (y.c.pg=e.c.pg/\y.c.sl=e.c.sl)
 ix:e.kind=7->e.ref=Qap h e.c.pg
 ck:e.kind=6->e.blob=[]\/∃ c,CkV c/\e.blob=QaI c/\Cor h c.pg c.nx c.tx c.ix (LD c.dl)
 x7:e.kind=7->1<=e.ref/\∀ x∈h,x.kind=7->¬ (x.c.pg=e.c.pg/\x.ref=e.ref)
def LogOk(es:List E):Prop:=∀ i,i<es.length->EnOk (es.take i) (es.getD i E0)
def LogOk.nil:LogOk []:=fun i h=>by simp at h
def LogOk.snoc(h:LogOk es)(he:EnOk es e):LogOk (es++[e]):=fun i hi=>by
 rw[Jf,List.length_singleton] at hi
 rcases JZ i es.length with hl | hl
 ·rw [List.take_append_of_le_length (by omega),Ja,JG hl,<- Ja]
  exact h i hl
 ·obtain rfl:i = es.length:=by omega
  rw[List.take_left,Ja,Jv (JT _),J0]
  exact he
def LogOk.take(h:LogOk es)(j:Nat):LogOk (es.take j):=fun i hi=>by
 rw[Jq] at hi
 have:=h i (by omega)
 rw[List.take_take,Nat.min_eq_left (by omega),Ja,List.getElem?_take_of_lt (by omega),<- Ja]
 exact this
def LkK(k:Kn)(p n:Int):Prop:=(∃ d∈k.la,d.pg=p/\d.last=n)\/∃ f∈k.pl.fs,f.dirty=true/\f.pg.id=p/\f.pg.lsn=n
structure KI(k:Kn):Prop where
 lg:lgB k.lg=true
 f:k.lg.f=1
 log:LogOk k.lg.es
 cor:Cor k.lg.es k.pg k.nx k.tx k.ix (LkK k)
 fr:∀ f∈k.pl.fs,f.pg.lsn=Qap k.lg.es f.pg.id
def Qbv(h:lgB x=true)(hi:i<x.es.length):(x.es.getD i E0).lsn=x.f+i/\(x.es.getD i E0).okB=true:=by
 unfold lgB at h
 rw[Jc,Jp] at h
 have:=h.2 i (Ju.2 hi)
 unfold lgC at this
 simpa using this
def Qhi(h:lgB x=true)(hf:x.f=1)(he:e∈x.es):1<=e.lsn/\e.lsn<=x.end_/\e.okB=true:=by
 obtain⟨i,hi,rfl⟩:=Jb.1 he
 have:=Qbv h hi
 rw[Qd _ _ hi] at this
 unfold Lg.end_
 exact⟨by omega,by omega,this.2⟩
def Qxh(h:lgB x=true)(ha:a∈x.es)(hb:b∈x.es)(he:a.lsn=b.lsn):a=b:=by
 obtain⟨i,hi,rfl⟩:=Jb.1 ha
 obtain⟨j,hj,rfl⟩:=Jb.1 hb
 have h1:=(Qbv h hi).1
 have h2:=(Qbv h hj).1
 rw[Qd _ _ hi] at h1
 rw[Qd _ _ hj] at h2
 obtain rfl:i=j:=by omega
 rfl
def QxF(h:(Qbr x n).2=0):(Qbr x n).1∈x.es/\(Qbr x n).1.lsn=n:=by
 obtain⟨h1,h2,h3,h4,_⟩:=Qns h
 refine⟨?_,h4⟩
 unfold Qbr
 rw[if_neg (by rw[h1]; decide),if_neg (by omega)]
 dsimp only
 unfold Lg.end_ at h3
 rw[Qd _ _ (by omega)]
 exact Jg _
def QBB(h:lgB x=true)(he:e∈x.es):Qbr x e.lsn=(e,0):=by
 obtain⟨i,hi,rfl⟩:=Jb.1 he
 have h1:=(Qbv h hi).1
 rw[Qd _ _ hi] at h1
 unfold Qbr
 rw[if_neg (by rw[h]; decide),if_neg (by unfold Lg.end_; omega),h1,show(x.f+i-x.f).toNat=i by omega,Qd _ _ hi]
def Qs9(es:List E)(a n:Int)(h:n∈QdO es a):∃ x∈es,x.lsn=n/\x.kind=1/\x.tx=a:=by
 revert h
 refine Qcx (P:=fun es=>n∈QdO es a->∃ x∈es,x.lsn=n/\x.kind=1/\x.tx=a) (fun h=>by simp[QdO] at h) (fun l e ih h=>?_) es
 have up:(∃ x∈l,x.lsn=n/\x.kind=1/\x.tx=a)->∃ x∈l++[e],x.lsn=n/\x.kind=1/\x.tx=a:=fun⟨x,q1,q2⟩=>⟨x,Jl _ q1,q2⟩
 rw[QdC] at h
 split at h
 ·rename_i ht
  split at h
  ·rename_i hk
   rcases Ji.1 h with h | h
   ·exact up (ih h)
   ·exact⟨e,by simp,(Jh.1 h).symm,hk,ht⟩
  split at h
  ·exact up (ih (JC.1 h).1)
  ·exact up (ih h)
 ·exact up (ih h)
def KI.head(hk:KI k)(v:kB k=true)(h0:0<=p)(hp:p<k.pg):Qfo k p=Qap k.lg.es p:=by
 unfold Qfo
 rw[if_pos ⟨v,h0,hp⟩]
 unfold Qxz
 split
 ·rename_i hi
  rcases QaY k.pl.fs p with hn | ⟨i,hil,hid,he⟩
  ·omega
  rw[hid,Jj]
  rw[Qd _ _ hil] at he |-
  rw[hk.fr _ (Jg hil),he]
 rename_i hi
 obtain⟨d,b,hl⟩:∃ d b,(d,b)=QaH k.la p:=⟨(QaH k.la p).1,(QaH k.la p).2,rfl⟩
 rw[<- hl]
 cases b
 ·rw [if_neg (show ¬ (false = true) from fun h=>by cases h)]
  obtain⟨m,rfl⟩:∃ m:Nat,p=m:=⟨p.toNat,by omega⟩
  rw[Jj]
  refine(hk.cor.row m hp).2 fun n hL=>?_
  rcases hL with⟨x,q1,q2,_⟩ | ⟨f,q1,_,q2,_⟩
  ·exact Qgp hl x q1 q2
  ·obtain ⟨j,hj,rfl⟩:=Jb.1 q1
   obtain⟨i,_,h2,_⟩:=QoB (l:=k.pl.fs) (a:=(m:Int)) ⟨j,hj,by rw[Qd _ _ hj]; exact q2.symm⟩
   omega
 ·rw [if_pos rfl]
  obtain⟨q1,q2⟩:=QlJ hl
  exact hk.cor.la p d.last (.inl ⟨d,q1,q2,rfl⟩)
def Qnn(h:0<=idT l a):Qa7 l a∈l/\(Qa7 l a).id=a:=by
 rcases QB l a with hn | ⟨i,hi,hid,he⟩
 ·omega
 ·rw[Qd1 hid,Qd l i hi]; exact⟨Jg hi,he⟩
def QAV{e:E}(h:e.okB=true)(hk:e.kind=1\/e.kind=2):1<=e.tx:=by
 unfold E.okB at h
 rw[Jc] at h
 have h2:=h.2
 unfold E.kindB txB at h2
 split at h2
 ·simp only[Jc,decide_eq_true_eq] at h2; omega
 split at h2
 ·simp only[Jc,decide_eq_true_eq] at h2; omega
 ·omega
def Qtj{e:E}(h:e.okB=true):1<=e.lsn:=by
 unfold E.okB at h
 simp only[Jc,decide_eq_true_eq] at h
 omega
structure AddF(k:Kn)(e e':E):Prop where
 lt:∀ x∈k.lg.es,x.lsn<e'.lsn
 pos:1<=e'.lsn
 nx:e'.tx<k.nx
 tx:0<e'.tx->Qa7 k.tx e'.tx∈k.tx/\(Qa7 k.tx e'.tx).id=e'.tx/\TxOk k.lg.es (Qa7 k.tx e'.tx)/\e'.ptx=(Qa7 k.tx e'.tx).n
def AddOk.facts(hk:KI k)(ha:AddOk k e e'):AddF k e e':=by
 obtain⟨v,s,ho,hl,hn,hnt,hnr,h0,hi,hp1,hp2⟩:=ha
 have hv:=Qj0 v
 have hd:=Q9 hk.lg
 simp only[Lg.hd] at hd
 have htx:0<e'.tx->Qa7 k.tx e'.tx∈k.tx/\(Qa7 k.tx e'.tx).id=e'.tx/\TxOk k.lg.es (Qa7 k.tx e'.tx)/\e'.ptx=(Qa7 k.tx e'.tx).n:=fun q=>by
  rw[s.2.1] at q
  obtain⟨i,hil,hid,hp⟩:=hi q
  obtain⟨g1,g2⟩:=Qnn (l:=k.tx) (a:=e'.tx) (by rw[s.2.1,hid]; omega)
  exact⟨g1,g2,hk.cor.ok _ g1,by rw[hp,s.2.1,Qd1 hid]⟩
 refine⟨fun x hx=>?_,?_,?_,htx⟩
 ·have:=(Qhi hk.lg hk.f hx).2.1
  omega
 ·have:=hk.f
  unfold Lg.end_ at hl
  omega
 ·by_cases q:0 < e'.tx
  ·obtain ⟨g1,g2,_⟩:=htx q
   obtain⟨j,hj,hje⟩:=Jb.1 g1
   have:=(QtF v).ids j hj
   rw[Qd _ _ hj,hje,g2] at this
   exact this
  ·have:=hv.2.1
   omega
def KI.addP(hk:KI k)(ha:AddOk k e e')(he:EnOk k.lg.es e')(e1:k'.lg=(k.add e').lg)(e2:k'.tx=(k.add e').tx)(e3:k'.ix=(k.add e').ix)(e4:k'.pg=k.pg)(e5:k'.nx=k.nx)(h1:∀ p n,LkK k' p n->((e'.kind=1\/e'.kind=2)/\p=e'.c.pg/\n=e'.lsn)\/(LkK k p n/\((e'.kind=1\/e'.kind=2)->p≠e'.c.pg)))(h2:∀ p,(∀ n,¬ LkK k' p n)->((∀ n,¬ LkK k p n)\/(e'.kind=7/\p=e'.c.pg))/\((e'.kind=1\/e'.kind=2)->p≠e'.c.pg))(hf:∀ f∈k'.pl.fs,f.pg.lsn=Qap (k.lg.es++[e']) f.pg.id)(h3:e'.kind=7->∀ n,¬ LkK k' e'.c.pg n):KI k':=by
 have F:=ha.facts hk
 have hl:=ha.lgB
 obtain⟨v,s,ho,hle,hn,hnt,hnr,h0,hi,hp1,hp2⟩:=ha
 have hes:k'.lg.es=k.lg.es++[e']:=by rw[e1]; rfl
 refine⟨by rw[e1]; exact hl,by rw[e1]; exact hk.f,by rw[hes]; exact hk.log.snoc he,?_,by rw[hes]; exact hf⟩
 rw[hes,e2,e3,e4,e5]
 exact hk.cor.add he.ix F.lt F.pos hnt hnr (Jz _) F.nx h1 h2 h3
def Cor.same(h:Cor es pg nx tx ix L)(hn:nx<=nx')(h1:∀ t∈tx',TxOk es t)(h2:∀ x∈es,0<x.tx->(∃ t∈tx,t.id=x.tx)->∃ t∈tx',t.id=x.tx):Cor es pg nx' tx' ix L:=
 ⟨h.pgr,fun e he=>JR (h.ids e he) hn,h1,fun x hx h0=>(h.all x hx h0).imp (h2 x hx h0) id,h.len,h.row,h.la,h.lt,h.w7⟩
def TxOk.alike(h:TxOk es t)(h1:u.id=t.id)(h2:u.n=t.n)(h3:u.l=t.l)(h4:u.st=3 ↔ t.st=3):TxOk es u:=
 ⟨by rw[h2,h1]; exact h.n,by rw[h3,h1]; exact h.l,by rw[h1]; exact h.ne,by rw[h4,h1]; exact h.ab⟩
def Cor.setT(h:Cor es pg nx tx ix L)(hi:i<tx.length)(h1:u.id=tx[i].id)(h2:u.n=tx[i].n)(h3:u.l=tx[i].l)(h4:u.st=3 ↔ tx[i].st=3):Cor es pg nx (tx.set i u) ix L:=
 h.same (Jz _) (fun t q=>by
  rcases Qou q with⟨j,hj,_,rfl⟩ | ⟨rfl,_⟩
  ·exact h.ok _ (Jg hj)
  ·exact(h.ok _ (Jg hi)).alike h1 h2 h3 h4) fun x _ _ ⟨t,q1,q2⟩=>by
  obtain⟨j,hj,rfl⟩:=Jb.1 q1
  by_cases hij:i=j
  ·subst hij; exact⟨u,QnZ hi,by rw[h1]; exact q2⟩
  ·exact⟨tx[j],QiB hj hij,q2⟩
def KI.txs(hk:KI k)(h:Cor k.lg.es k.pg k.nx tx' k.ix (LkK k)):KI ⟨k.pg,k.nx,k.lg,k.pl,k.lk,tx',k.ix,k.la⟩:=⟨hk.lg,hk.f,hk.log,h,hk.fr⟩
def Qr1(h:(Qh3 l a).2=0):∃ i,∃ hi:i<l.length,(Qh3 l a).1=l.set i { l[i] with s:=l[i].s++[l[i].n] }:=by
 unfold Qh3 at h |-
 split at h
 ·rename_i q; exact absurd h q
 rename_i q1
 split at h
 ·simp at h
 rename_i q2
 rw[if_neg q1,if_neg q2]
 obtain⟨_,i,hi,hid,_,hg⟩:=QbJ (by omega:(Qr l a).2=0)
 exact⟨i,hi,by rw[hid,hg,Jj]⟩
def Qu2(h:(Qij l a b).2=0):∃ i,∃ hi:i<l.length,∃ u,(Qij l a b).1=l.set i u/\u.id=l[i].id/\u.n=l[i].n/\u.l=l[i].l/\(u.st=3 ↔ l[i].st=3):=by
 unfold Qij at h |-
 split at h
 ·rename_i q; exact absurd h q
 rename_i q1
 split at h
 ·simp at h
 rename_i q2
 rw[if_neg q1,if_neg q2]
 have hst:=(Qi7 (by omega:(Qr l a).2=0)).1
 obtain⟨_,i,hi,hid,_,hg⟩:=QbJ (by omega:(Qr l a).2=0)
 rw[hg] at hst
 rw[hid,hg,Jj]
 split
 ·exact⟨i,hi,_,rfl,rfl,rfl,rfl,by dsimp only; omega⟩
 ·exact⟨i,hi,_,rfl,rfl,rfl,rfl,Iff.rfl⟩
def Qqx(h:(Qab l a).2=0):(Qab l a).1=QCA l ⟨a,1,0,0,[],[]⟩:=by
 unfold Qab at h |-
 repeat' split at h
 all_goals first | (simp at h; done) | skip
 rename_i q1 q2 q3 q4
 rw[if_neg q1,if_neg q2,if_neg q3,if_neg q4]
def mem_insT:u∈QCA l t ↔ u=t\/u∈l:=by
 unfold QCA
 rw[Ji,Ka]
 constructor
 ·rintro (h | h | h)
  ·exact .inr (JF h)
  ·exact .inl h
  ·exact .inr (JO h)
 ·rintro (h | h)
  ·exact .inr (.inl h)
  ·rw [<- List.take_append_drop (QAM l t.id) l,Ji] at h
   exact h.imp id .inr
def Cor.beginT(h:Cor es pg nx tx ix L)(hn:nx<=nx')(hb:(Qab tx a).2=0)(hf:∀ x∈es,x.tx≠a):Cor es pg nx' (Qab tx a).1 ix L:=by
 rw[Qqx hb]
 exact h.same hn (fun t q=>by
  rcases mem_insT.1 q with rfl | q
  ·exact TxOk.fresh hf
  ·exact h.ok t q) fun x _ _ ⟨t,q1,q2⟩=>⟨t,mem_insT.2 (.inr q1),q2⟩
def Qa9(es:List E)(e:E)(p:Int)(h:¬ ((e.kind=1\/e.kind=2)/\e.c.pg=p)):Qap (es++[e]) p=Qap es p:=by rw[Qan,if_neg h]
def KI.fin(hk:KI k)(ha:AddOk k e e')(h3:e.kind=3\/e.kind=4\/e.kind=5)(hf:QEC k e):KI (k.add e'):=by
 have F:=ha.facts hk
 have s:=ha.2.1
 have ho:=ha.2.2.1
 have hk':e'.kind=3\/e'.kind=4\/e'.kind=5:=by rw[s.1]; exact h3
 have hn:¬ (e'.kind=1\/e'.kind=2):=by omega
 obtain⟨f1,f2,f3⟩:=hf
 rw[<- s.2.1,<- s.1] at *
 refine hk.addP ha ⟨fun q=>?_,fun q=>?_,fun q h=>?_,fun q=>?_,fun q=>absurd q hn,fun q=>by omega,fun q=>by omega,fun q=>by omega,fun q=>by omega⟩ rfl rfl rfl rfl rfl (fun p n q=>.inr ⟨q,fun h=>absurd h hn⟩) (fun p q=>⟨.inl q,fun h=>absurd h hn⟩) (fun f q=>by rw[Qa9 _ _ _ fun h=>hn h.1]; exact hk.fr f q) (fun q=>by omega)
 ·obtain ⟨_,g2,g3,g4⟩:=F.tx q
  rw[g4,g3.n,g2]
 ·obtain ⟨_,g2,g3,_⟩:=F.tx q
  have:=g3.ne
  rwa [g2] at this
 ·obtain ⟨_,g2,g3,_⟩:=F.tx q
  have:=g3.ab
  rw[g2] at this
  by_cases h5:e'.kind=5
  ·exact .inr h5
  ·exact absurd (this.2 h) (f2 (by omega))
 ·obtain ⟨i1,i2⟩:=f3 q
  obtain⟨g1,g2⟩:=Qnn f1
  have g3:=hk.cor.ok _ g1
  have h1:=g3.ab
  have h2:=g3.l
  rw[g2] at h1 h2
  exact⟨h1.1 i1,by rw[<- h2]; exact i2⟩
def CkP.ok(hk:KI k)(h:CkP k s):s=[]\/∃ c,CkV c/\s=QaI c/\Cor k.lg.es c.pg c.nx c.tx c.ix (LD c.dl):=by
 rcases h with h | ⟨c,h1,h2,h3⟩
 ·exact .inl h
 refine .inr ⟨c,h2,h3,?_⟩
 rw[h1.pg,h1.nx,h1.tx,h1.ix]
 refine hk.cor.weak (Jz _) (fun p n q=>?_) fun p q n hL=>?_
 ·obtain ⟨d,q1,q2,q3⟩:=q
  rcases h1.dl d q1 with⟨x,x1,x2,x3⟩ | ⟨f,x1,x2,x3,x4⟩
  ·exact .inl ⟨x,x1,by omega,by omega⟩
  ·exact .inr ⟨f,x1,x2,by omega,by omega⟩
 ·rcases hL with ⟨d,x1,x2,x3⟩ | ⟨f,x1,x2,x3,x4⟩
  ·obtain ⟨d',y1,y2⟩:=h1.la d x1
   exact q _ ⟨d',y1,by omega,rfl⟩
  ·obtain ⟨d',y1,y2⟩:=h1.fs f x1 x2
   exact q _ ⟨d',y1,by omega,rfl⟩
def KI.ckpt(hk:KI k)(ha:AddOk k e e')(h6:e.kind=6)(hc:CkP k e.blob):KI (k.add e'):=by
 have F:=ha.facts hk
 have s:=ha.2.1
 have ho:=ha.2.2.1
 have hk':e'.kind=6:=by rw[s.1]; exact h6
 have hn:¬ (e'.kind=1\/e'.kind=2):=by omega
 have htx:e'.tx=0:=by
  by_cases h:e'.tx=0
  ·exact h
  ·have:=QeH ho h; omega
 exact hk.addP ha ⟨fun q=>by omega,fun q=>by omega,fun q=>by omega,fun q=>by omega,fun q=>absurd q hn,fun q=>by omega,fun q=>by omega,fun _=>by rw[s.2.2.2.2]; exact hc.ok hk,fun q=>by omega⟩ rfl rfl rfl rfl rfl (fun p n q=>.inr ⟨q,fun h=>absurd h hn⟩) (fun p q=>⟨.inl q,fun h=>absurd h hn⟩) (fun f q=>by rw[Qa9 _ _ _ fun h=>hn h.1]; exact hk.fr f q) (fun q=>by omega)
def QvT(h:(Qkh p x).2=0):plB p=true/\∃ i,i<p.fs.length/\idF p.fs x.id=(i:Nat)/\(Qkh p x).1=⟨p.size,p.fs.set i (QqH (p.fs.getD i Fm0) x),p.hand⟩:=by
 unfold Qkh at h |-
 split at h
 ·simp at h
 rename_i q1
 split at h
 ·rename_i q; exact absurd h q
 rename_i q2
 split at h
 ·simp at h
 rename_i q3
 split at h
 ·simp at h
 rename_i q4
 rw[if_neg q1,if_neg q2,if_neg q3,if_neg q4]
 rcases QaY p.fs x.id with hn | ⟨i,hi,hid,_⟩
 ·omega
 ·exact⟨by simpa using q1,i,hi,hid,by rw[hid,Jj]⟩
def Qgn{l:List Fm}{i:Nat}{t u:Fm}(h:t∈l.set i u):(∃ j,∃ hj:j<l.length,j≠i/\l[j]=t)\/(t=u/\i<l.length):=by
 obtain⟨j,hj,rfl⟩:=Jb.1 h
 rw[Jo] at hj
 by_cases hij:i=j
 ·subst hij; right; rw[JE]; exact⟨rfl,hj⟩
 ·left; rw[JI hij]; exact⟨j,hj,fun q=>hij q.symm,rfl⟩
def Qv9{l:List Fm}(hi:i<l.length):u∈l.set i u:=by
 rw[Jb]; exact⟨i,by rw[Jo]; exact hi,by rw[JE]⟩
def QiC{l:List Fm}{i j:Nat}{u:Fm}(hj:j<l.length)(hij:i≠j):l[j]∈l.set i u:=by
 rw[Jb]; exact⟨j,by rw[Jo]; exact hj,by rw[JI hij]⟩
def QBA(h:(QeP p a).2=true):plB p=true/\∃ i,∃ hi:i<p.fs.length,idF p.fs a=(i:Nat)/\(p.fs[i]).pg.id=a/\(QeP p a).1=(p.fs[i]).pg:=by
 unfold QeP at h |-
 split at h
 ·simp at h
 rename_i q
 rw[if_neg q]
 rcases QbT p a with hn | ⟨hp,i,hi,h1,h2,h3⟩
 ·omega
 ·rw [Qd _ _ hi] at h3
  exact⟨hp,i,hi,h2,h3,by rw[h1,Jj,Qd _ _ hi]⟩
def KI.setE(hk:KI k)(ha:AddOk k e e')(h12:e.kind=1\/e.kind=2)(hs:QFZ k e)(hu:(Qkh k.pl (Qd3 k.pl e')).2=0):KI (k.set e'):=by
 have F:=ha.facts hk
 obtain⟨v,s,ho,hl,hn,hnt,hnr,h0,hi,hp1,hp2⟩:=id ha
 obtain⟨s1,s2,s3,s4,s5⟩:=s
 have hk':e'.kind=1\/e'.kind=2:=by rw[s1]; exact h12
 have n5:e'.kind≠5:=by omega
 have n7:e'.kind≠7:=by omega
 have n6:e'.kind≠6:=by omega
 obtain⟨f1,f2,f3,f4,f5⟩:=hs
 rw[<- s4] at f4 f5
 obtain⟨hpl,i,hil,hid,hpg,hgp⟩:=QBA f4
 have hsp:(Qd3 k.pl e').id=e'.c.pg:=by
  show(QeP k.pl e'.c.pg).1.id=_
  rw[hgp,hpg]
 obtain⟨_,j,hj,hjd,hup⟩:=QvT hu
 rw[hsp,hid] at hjd
 obtain rfl:i=j:=by omega
 have hpos:0<e'.tx:=by
  have:=QAV ho hk'
  omega
 obtain⟨g1,g2,g3,g4⟩:=F.tx hpos
 have hrng:0<=e'.c.pg/\e'.c.pg<k.pg:=by
  have h1:=Qnw (Qld hpl hil)
  have h2:=((QtF v).frs i hil).1
  rw[Qd _ _ hil] at h1 h2
  omega
 have hother:∀ j,(hj:j<k.pl.fs.length)->j≠i->(k.pl.fs[j]).pg.id≠e'.c.pg:=fun j hj hji q=>by
  have:=Qs6 hpl hj
  rw[Qd _ _ hj,q,hid] at this
  omega
 have hfs:(k.set e').pl.fs=k.pl.fs.set i (QqH (k.pl.fs.getD i Fm0) (Qd3 k.pl e')):=by
  show(Qkh k.pl (Qd3 k.pl e')).1.fs=_
  rw[hup]
 have hup1:(QqH (k.pl.fs.getD i Fm0) (Qd3 k.pl e')).dirty=true:=rfl
 have hup2:(QqH (k.pl.fs.getD i Fm0) (Qd3 k.pl e')).pg.id=e'.c.pg:=hsp
 have hup3:(QqH (k.pl.fs.getD i Fm0) (Qd3 k.pl e')).pg.lsn=e'.lsn:=rfl
 generalize QqH (k.pl.fs.getD i Fm0) (Qd3 k.pl e')=u at *
 refine hk.addP ha ⟨fun _=>by rw[g4,g3.n,g2],fun _=>?_,fun _ h=>?_,fun q=>absurd q n5,fun _=>?_,fun q=>?_,fun q=>absurd q n7,fun q=>absurd q n6,fun q=>absurd q n7⟩ rfl rfl rfl rfl rfl (fun p n q=>?_) (fun p q=>?_) (fun f q=>?_) (fun q=>absurd q n7)
 ·have:=g3.ne; rwa [g2] at this
 ·have:=g3.ab
  rw[g2] at this
  have h3:=this.2 h
  rcases h12 with q | q
  ·have:=f2 q; rw[<- s2] at this; omega
  ·exact .inl (by omega)
 ·rw [hp1 h12,<- s4]
  exact hk.head v hrng.1 hrng.2
 ·rw [s1] at q
  obtain⟨_,y,hla,hy1,hy2⟩:=f3 q
  rw[<- s2] at hla
  obtain⟨m,hm,hm1,hm2,hm3⟩:=hla
  have hgl:=g3.l
  rw[g2] at hgl
  obtain⟨ym,yl⟩:=QxF hm1
  rw[<- hm2] at ym yl
  have hmem:y.lsn∈QdO k.lg.es e'.tx:=by
   rw[<- hgl,yl,Ja,JJ hm]
   exact Jg hm
  obtain⟨x,x1,x2,x3,x4⟩:=Qs9 _ _ _ hmem
  obtain rfl:=Qxh hk.lg x1 ym x2
  have hr:e'.ref=x.lsn:=by rw[s3]; exact hy1
  have hc':e'.c=⟨x.c.pg,x.c.sl,x.c.a,x.c.b⟩:=by rw[s4]; exact hy2
  refine⟨by rw[hr]; exact hmem,x,x1,hr.symm,x3,x4,hc',fun z z1 z2 z3 z4=>?_⟩
  rw[<- hgl] at z2
  obtain⟨w,hw,hwz⟩:=Jb.1 z2
  have hasc:(Qa7 k.tx e'.tx).l.Pairwise (·<·):=by
   obtain⟨q1,q2,q3⟩:=Jb.1 g1
   have:=Qbp (Qj0 v).2.2.2.2.1 q2
   rw[q3] at this
   exact Qtk this
  have hwm:m<w:=by
   rcases JL m w with h | h | h
   ·exact h
   ·subst h
    rw[Qd _ _ hm] at yl
    omega
   ·have:=(JH.1 hasc) w m hw hm h
    rw[Qd _ _ hm] at yl
    omega
  have hgz:=QBB hk.lg z1
  have:=hm3 w hwm hw
  rw[Qd _ _ hw,hwz,hgz] at this
  rw[hc'] at z4
  exact this rfl z4
 ·unfold LkK at q
  rw[hfs] at q
  rcases q with⟨d,d1,d2,d3⟩ | ⟨f,d1,d2,d3,d4⟩
  ·refine .inr ⟨.inl ⟨d,d1,d2,d3⟩,fun _=>?_⟩
   have hlk:=((QtF v).frs i hil).2
   rw[Qd _ _ hil,hpg] at hlk
   obtain⟨b,hb⟩:∃ b,(b,false)=QaH k.la e'.c.pg:=⟨(QaH k.la e'.c.pg).1,by rw[<- hlk]⟩
   rw[<- d2]
   exact Qgp hb d d1
  ·rcases Qgn d1 with ⟨j,hj,hji,rfl⟩ | ⟨rfl,_⟩
   ·exact .inr ⟨.inr ⟨_,Jg hj,d2,d3,d4⟩,fun _=>by rw[<- d3]; exact hother j hj hji⟩
   ·exact .inl ⟨hk',by rw[<- d3,hup2],by rw[<- d4,hup3]⟩
 ·have hpe:p ≠ e'.c.pg:=fun h=>q e'.lsn (.inr ⟨u,by rw [hfs]; exact Qv9 hil,hup1,by rw [hup2,h],hup3⟩)
  refine⟨.inl fun n hL=>?_,fun _=>hpe⟩
  rcases hL with⟨d,d1,d2,d3⟩ | ⟨f,d1,d2,d3,d4⟩
  ·exact q n (.inl ⟨d,d1,d2,d3⟩)
  ·obtain ⟨j,hj,rfl⟩:=Jb.1 d1
   by_cases hji:i=j
   ·subst hji; omega
   ·exact q n (.inr ⟨_,by rw[hfs]; exact QiC hj hji,d2,d3,d4⟩)
 ·rw [hfs] at q
  rcases Qgn q with⟨j,hj,hji,rfl⟩ | ⟨rfl,_⟩
  ·rw [Qa9 _ _ _ fun h=>hother j hj hji h.2.symm]
   exact hk.fr _ (Jg hj)
  ·rw[Qan,if_pos ⟨hk',hup2.symm⟩,hup3]
def Qft(h:(QaR p a n).2=0)(hi:i<p.fs.length)(hid:idF p.fs a=(i:Nat))(hn:(p.fs.getD i Fm0).pg.lsn=n):((p.fs.getD i Fm0).dirty=false/\(QaR p a n).1=p)\/∃ u:Fm,u.pg=(p.fs.getD i Fm0).pg/\u.dirty=false/\(QaR p a n).1=⟨p.size,p.fs.set i u,p.hand⟩:=by
 unfold QaR at h |-
 split at h
 ·simp at h
 rename_i q1
 split at h
 ·simp at h
 rename_i q2
 split at h
 ·simp at h
 rename_i q3
 rw[if_neg q1,if_neg q2,if_neg q3,hid,Jj]
 split
 ·rename_i q4; exact .inl ⟨by simpa using q4,rfl⟩
 ·refine .inr ⟨_,?_,?_,rfl⟩<;>unfold Qe0<;>rw[if_pos hn]
def Qtz(h:(QaH l n).2=true):∃ d∈l,d.pg=n:=by
 unfold QaH at h
 split at h
 ·rename_i d hd
  exact⟨d,JS hd,by simpa using J7 hd⟩
 ·cases h
def QBf(h:ixB l=true)(p:Nat):0<=(l.getD p Rw0).lsn:=by
 by_cases hp:p<l.length
 ·unfold ixB at h
  simp only[Jc,Jp,Ju] at h
  have:=h.2 p hp
  unfold QAt QpQ at this
  simp only[Jc,decide_eq_true_eq] at this
  omega
 ·rw[Ja,JD (by omega)]; exact Jz _
def KI.wrt(hk:KI k)(ha:AddOk k e e')(h7:e.kind=7)(hw:QGm k e):KI (k.wrt e'):=by
 have F:=ha.facts hk
 obtain⟨v,s,ho,hl,hn,hnt,hnr,h0,hi,hp1,hp2⟩:=id ha
 obtain⟨s1,s2,s3,s4,s5⟩:=s
 have hk':e'.kind=7:=by rw[s1]; exact h7
 have hn:¬ (e'.kind=1\/e'.kind=2):=by omega
 have n5:e'.kind≠5:=by omega
 have n2:e'.kind≠2:=by omega
 have n6:e'.kind≠6:=by omega
 have htx:¬ 0<e'.tx:=fun h=>by have:=QeH ho (by omega); omega
 obtain⟨i,hil,hid,hls,hcl,hdd⟩:=hw
 rw[<- s4,<- s3] at hcl
 rw[<- s4] at hid
 rw[<- s3] at hls
 have hpl:=(Qj0 v).2.2.2.1
 have hpg:(k.pl.fs.getD i Fm0).pg.id=e'.c.pg:=by
  rcases QaY k.pl.fs e'.c.pg with q | ⟨j,_,q1,q2⟩
  ·omega
  ·obtain rfl:j = i:=by omega
   exact q2
 have hother:∀ j,(hj:j<k.pl.fs.length)->j≠i->(k.pl.fs[j]).pg.id≠e'.c.pg:=fun j hj hji q=>by
  have:=Qs6 hpl hj
  rw[Qd _ _ hj,q,hid] at this
  omega
 have hmi:k.pl.fs.getD i Fm0∈k.pl.fs:=by rw[Qd _ _ hil]; exact Jg hil
 have hfs:(k.wrt e').pl.fs=(QaR k.pl e'.c.pg e'.ref).1.fs:=rfl
 have hsub:∀ f∈(k.wrt e').pl.fs,∃ g∈k.pl.fs,g.pg=f.pg/\(f.dirty=true->g=f):=fun f hf=>by
  rw[hfs] at hf
  rcases Qft hcl hil hid hls with⟨_,q⟩ | ⟨u,u1,u2,q⟩
  ·rw[q] at hf; exact⟨f,hf,rfl,fun _=>rfl⟩
  ·rw [q] at hf
   rcases Qgn hf with⟨j,hj,_,rfl⟩ | ⟨rfl,_⟩
   ·exact⟨_,Jg hj,rfl,fun _=>rfl⟩
   ·exact⟨_,hmi,u1.symm,fun h=>by rw[u2] at h; cases h⟩
 have hsup:∀ f∈k.pl.fs,f.dirty=true->f.pg.id≠e'.c.pg->f∈(k.wrt e').pl.fs:=fun f hf hd hne=>by
  rw[hfs]
  rcases Qft hcl hil hid hls with⟨_,q⟩ | ⟨u,u1,u2,q⟩
  ·rw[q]; exact hf
  ·rw [q]
   obtain⟨j,hj,rfl⟩:=Jb.1 hf
   by_cases hji:i=j
   ·subst hji; rw[Qd _ _ hil] at hpg; exact absurd hpg hne
   ·exact QiC hj hji
 refine hk.addP ha ⟨fun q=>absurd q htx,fun q=>absurd q htx,fun q=>absurd q htx,fun q=>absurd q n5,fun q=>absurd q hn,fun q=>absurd q n2,fun _=>?_,fun q=>absurd q n6,fun _=>?_⟩ rfl rfl rfl rfl rfl (fun p n q=>.inr ⟨?_,fun h=>absurd h hn⟩) (fun p q=>⟨?_,fun h=>absurd h hn⟩) (fun f q=>?_) (fun _ n q=>?_)
 ·rw[<- hls,hk.fr _ hmi,hpg]
 ·have hp0:=QeF ho (.inr (.inr hk'))
  have hlt:=hk.cor.lt e'.c.pg.toNat e'.ref (.inr ⟨_,hmi,hdd,by rw[hpg]; omega,hls⟩)
  have hix:=QBf (Qj0 v).2.2.2.2.2.1 e'.c.pg.toNat
  refine⟨by omega,fun x hx h7x ⟨g1,g2⟩=>?_⟩
  have:=hk.cor.w7 x hx h7x
  rw[g1] at this
  omega
 ·rcases q with q | ⟨f,d1,d2,d3,d4⟩
  ·exact .inl q
  ·obtain ⟨g,g1,g2,g3⟩:=hsub f d1
   obtain rfl:=g3 d2
   exact .inr ⟨g,g1,d2,d3,d4⟩
 ·by_cases hpe:p = e'.c.pg
  ·exact .inr ⟨hk',hpe⟩
  ·refine .inl fun n hL=>?_
   rcases hL with hL | ⟨f,d1,d2,d3,d4⟩
   ·exact q n (.inl hL)
   ·exact q n (.inr ⟨f,hsup f d1 d2 (by rw[d3]; exact hpe),d2,d3,d4⟩)
 ·obtain ⟨g,g1,g2,_⟩:=hsub f q
  rw[Qa9 _ _ _ fun h=>hn h.1,<- g2]
  exact hk.fr g g1
 ·rcases q with ⟨d,d1,d2,d3⟩ | ⟨f,d1,d2,d3,d4⟩
  ·have hlk:=((QtF v).frs i hil).2
   rw[hpg] at hlk
   obtain⟨b,hb⟩:∃ b,(b,false)=QaH k.la e'.c.pg:=⟨(QaH k.la e'.c.pg).1,by rw[<- hlk]⟩
   exact Qgp hb d d1 d2
  ·rw [hfs] at d1
   rcases Qft hcl hil hid hls with⟨g,_⟩ | ⟨u,u1,u2,g⟩
   ·rw[hdd] at g; cases g
   ·rw [g] at d1
    rcases Qgn d1 with⟨j,hj,hji,rfl⟩ | ⟨rfl,_⟩
    ·exact hother j hj hji d3
    ·rw[u2] at d2; cases d2
def KI.pool(hk:KI k)(h1:∀ f∈p.fs,∃ g∈k.pl.fs,g.pg=f.pg/\g.dirty=f.dirty)(h2:∀ g∈k.pl.fs,g.dirty=true->∃ f∈p.fs,f.pg=g.pg/\f.dirty=true):KI ⟨k.pg,k.nx,k.lg,p,k.lk,k.tx,k.ix,k.la⟩:=by
 refine⟨hk.lg,hk.f,hk.log,hk.cor.weak (Jz _) (fun q n h=>?_) (fun q h n hL=>?_),fun f hf=>?_⟩
 ·rcases h with h | ⟨f,d1,d2,d3,d4⟩
  ·exact .inl h
  ·obtain ⟨g,g1,g2,g3⟩:=h1 f d1
   exact .inr ⟨g,g1,by rw[g3]; exact d2,by rw[g2]; exact d3,by rw[g2]; exact d4⟩
 ·rcases hL with hL | ⟨f,d1,d2,d3,d4⟩
  ·exact h n (.inl hL)
  ·obtain ⟨g,g1,g2,g3⟩:=h2 f d1 d2
   exact h n (.inr ⟨g,g1,g3,by rw[g2]; exact d3,by rw[g2]; exact d4⟩)
 ·obtain ⟨g,g1,g2,_⟩:=h1 f hf
  show f.pg.lsn=_
  rw[<- g2]; exact hk.fr g g1
def SameF.mem(h:SameF l m)(hf:f∈m):∃ g∈l,g.pg=f.pg/\g.dirty=f.dirty:=by
 obtain⟨i,hi,rfl⟩:=Jb.1 hf
 have hl:=h.len
 have:=h.at_ i
 rw[Qd _ _ hi,Qd _ _ (by omega:i<l.length)] at this
 unfold Fm.clr at this
 simp only[Fm.mk.injEq] at this
 exact⟨_,Jg (by omega:i<l.length),this.1.symm,this.2.1.symm⟩
def SameF.symm(h:SameF l m):SameF m l:=Eq.symm h
def Quv(h:(QdR p a).2=0):∃ i:Nat,(p.fs.getD i Fm0).dirty=false/\(QdR p a).1.fs=p.fs.take i++p.fs.drop (i+1):=by
 unfold QdR at h |-
 split at h
 ·simp at h
 rename_i q1
 split at h
 ·simp at h
 rename_i q2
 split at h
 ·simp at h
 rename_i q3
 rw[if_neg q1,if_neg q2,if_neg q3]
 exact⟨(idF p.fs a).toNat,by simpa using q3,by dsimp only⟩
def KI.drop(hk:KI k)(h:(QdR k.pl a).2=0):KI ⟨k.pg,k.nx,k.lg,(QdR k.pl a).1,k.lk,k.tx,k.ix,k.la⟩:=by
 obtain⟨i,hd,hf⟩:=Quv h
 refine hk.pool (fun f q=>?_) fun g q hg=>?_
 ·rw [hf] at q
  rcases Ji.1 q with q | q
  ·exact⟨f,JF q,rfl,rfl⟩
  ·exact⟨f,JO q,rfl,rfl⟩
 ·obtain ⟨j,hj,rfl⟩:=Jb.1 q
  have hji:j≠i:=fun h=>by subst h; rw[Qd _ _ hj,hg] at hd; cases hd
  refine⟨k.pl.fs[j],?_,rfl,hg⟩
  rw[hf,Ji]
  rcases Nat.lt_or_gt_of_ne hji with h | h
  ·left; rw[Jb]; exact⟨j,by rw[Jq]; omega,by rw[List.getElem_take]⟩
  ·right; rw[Jb]; exact⟨j-(i+1),by rw[JV]; omega,by rw[List.getElem_drop]; congr 1; omega⟩
def KI.put(hk:KI k)(v:kB k=true)(hr:0<=x.id/\x.id<k.pg)(hl:x.lsn=Qfo k x.id):KI ⟨k.pg,k.nx,k.lg,⟨k.pl.size,k.pl.fs++[⟨x,false,0,true⟩],k.pl.hand⟩,k.lk,k.tx,k.ix,k.la⟩:=by
 rw[hk.head v hr.1 hr.2] at hl
 refine⟨hk.lg,hk.f,hk.log,hk.cor.weak (Jz _) (fun q n h=>?_) (fun q h n hL=>?_),fun f hf=>?_⟩
 ·rcases h with h | ⟨f,d1,d2,d3,d4⟩
  ·exact .inl h
  ·rcases Ji.1 d1 with d1 | d1
   ·exact .inr ⟨f,d1,d2,d3,d4⟩
   ·rw[Jh.1 d1] at d2; cases d2
 ·rcases hL with hL | ⟨f,d1,d2⟩
  ·exact h n (.inl hL)
  ·exact h n (.inr ⟨f,Jl _ d1,d2⟩)
 ·rcases Ji.1 hf with d1 | d1
  ·exact hk.fr f d1
  ·rw[Jh.1 d1]; exact hl
def KI.putl(hk:KI k)(v:kB k=true)(hr:0<=x.id/\x.id<k.pg)(hl:x.lsn=Qfo k x.id)(hla:(QaH k.la x.id).2=true):KI ⟨k.pg,k.nx,k.lg,⟨k.pl.size,k.pl.fs++[⟨x,true,rc,true⟩],k.pl.hand⟩,k.lk,k.tx,k.ix,k.la.filter fun d=>decide (d.pg≠x.id)⟩:=by
 rw[hk.head v hr.1 hr.2] at hl
 refine⟨hk.lg,hk.f,hk.log,⟨hk.cor.pgr,hk.cor.ids,hk.cor.ok,hk.cor.all,hk.cor.len,fun p hp=>⟨(hk.cor.row p hp).1,fun q=>(hk.cor.row p hp).2 fun n hL=>?_⟩,fun p n h=>?_,fun p n h=>?_,hk.cor.w7⟩,fun f hf=>?_⟩
 ·have hxp:(p:Int) ≠ x.id:=fun h=>q x.lsn (.inr ⟨_,List.mem_append_right _ (Jh.2 rfl),rfl,h.symm,rfl⟩)
  rcases hL with⟨d,d1,d2,d3⟩ | ⟨f,d1,d2⟩
  ·exact q n (.inl ⟨d,JC.2 ⟨d1,by simp; omega⟩,d2,d3⟩)
  ·exact q n (.inr ⟨f,Jl _ d1,d2⟩)
 ·rcases h with ⟨d,d1,d2,d3⟩ | ⟨f,d1,d2,d3,d4⟩
  ·exact hk.cor.la p n (.inl ⟨d,(JC.1 d1).1,d2,d3⟩)
  ·rcases Ji.1 d1 with d1 | d1
   ·exact hk.cor.la p n (.inr ⟨f,d1,d2,d3,d4⟩)
   ·rw [Jh.1 d1] at d3 d4
    rw[<- d4,<- d3]; exact hl
 ·rcases h with ⟨d,d1,d2,d3⟩ | ⟨f,d1,d2,d3,d4⟩
  ·exact hk.cor.lt p n (.inl ⟨d,(JC.1 d1).1,d2,d3⟩)
  ·rcases Ji.1 d1 with d1 | d1
   ·exact hk.cor.lt p n (.inr ⟨f,d1,d2,d3,d4⟩)
   ·rw [Jh.1 d1] at d3 d4
    obtain⟨d,g1,g2⟩:=Qtz hla
    have:=hk.cor.la p d.last (.inl ⟨d,g1,by rw[g2]; exact d3,rfl⟩)
    refine hk.cor.lt p n (.inl ⟨d,g1,by rw[g2]; exact d3,?_⟩)
    rw[this,<- d4,<- d3]; exact hl.symm
 ·rcases Ji.1 hf with d1 | d1
  ·exact hk.fr f d1
  ·rw[Jh.1 d1]; exact hl
def KI.rem(hk:KI k)(hi:0<=idT k.tx a)(hn:(Qa7 k.tx a).n=0):KI ⟨k.pg,k.nx,k.lg,k.pl,k.lk,Qki k.tx a,k.ix,k.la⟩:=by
 obtain⟨g1,g2⟩:=Qnn hi
 have g3:=(hk.cor.ok _ g1).n
 rw[g2,hn] at g3
 refine hk.txs (hk.cor.same (Jz _) (fun t q=>hk.cor.ok t (mem_remS.1 q).1) fun x hx _ ⟨t,q1,q2⟩=>⟨t,mem_remS.2 ⟨q1,fun h=>?_⟩,q2⟩)
 have:=QlG k.lg.es (a:=a) (fun y hy=>(Qhi hk.lg hk.f hy).1) ⟨x,hx,by omega⟩
 omega
def Stp.KI {n:Nat} {k k':Kn} (h:Stp n k k') (hk:KI k):KI k':=by
 cases h with
 | begin v hb =>
   refine⟨hk.lg,hk.f,hk.log,hk.cor.beginT (show k.nx<=k.nx+1 by omega) hb fun x hx=>?_,hk.fr⟩
   have:=hk.cor.ids x hx
   omega
 | fin ha h3 hf=>exact hk.fin ha h3 hf
 | ckpt ha h6 hc=>exact hk.ckpt ha h6 hc
 | change ha h1 hs hu=>exact hk.setE ha (.inl h1) hs hu
 | undo ha h2 hs hu=>exact hk.setE ha (.inr h2) hs hu
 | wrt ha h7 hw=>exact hk.wrt ha h7 hw
 | lock u=>exact⟨hk.lg,hk.f,hk.log,hk.cor,hk.fr⟩
 | save a h =>
   obtain⟨i,hi,e⟩:=Qr1 h
   rw[e]
   exact hk.txs (hk.cor.setT hi rfl rfl rfl Iff.rfl)
 | back a b h =>
   obtain⟨i,hi,u,e,h1,h2,h3,h4⟩:=Qu2 h
   rw[e]
   exact hk.txs (hk.cor.setT hi h1 h2 h3 h4)
 | rem a hi hn=>exact hk.rem hi hn
 | pool p hs =>
   refine hk.pool (fun f q=>hs.mem q) fun g q hg=>?_
   obtain⟨f,f1,f2,f3⟩:=hs.symm.mem q
   exact⟨f,f1,f2,by rw[f3]; exact hg⟩
 | drop a h=>exact hk.drop h
 | put x v hr hl _ _=>exact hk.put v hr hl
 | putl x v hr hl _ hla=>exact hk.putl v hr hl hla
 | force d h=>exact⟨h hk.lg,hk.f,hk.log,hk.cor,hk.fr⟩
def Str.KI{n:Nat}{k k':Kn}(h:Str n k k')(hk:KI k):KI k':=by
 induction h with
 | refl k=>exact hk
 | step _ h2 ih=>exact h2.KI (ih hk)
end Go.Proofs.YtdnbdbgdfocpgaaGreat
