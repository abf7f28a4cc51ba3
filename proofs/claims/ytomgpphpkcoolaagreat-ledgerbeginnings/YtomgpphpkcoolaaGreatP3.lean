/-
  Contracts of functions and plain laws. No condition.
-/
import Derived.Test.YtomgpphpkcoolaaGreatP2
import Derived.Test.YtomgpphpkcoolaaGreatP1
import Derived.Test.YtomgpphpkcoolaaGreatV4
set_option linter.unusedSimpArgs false
set_option linter.unusedVariables false
set_option linter.defProp false
set_option maxRecDepth 100000
set_option maxHeartbeats 8000000
set_option autoImplicit true
set_option relaxedAutoImplicit true
open And renaming intro->Jb
open Bool renaming and_eq_true->Je,toNat_le->J3,toNat_false->J5
open Int renaming toNat_natCast->Jm,le_refl->JK,lt_of_lt_of_le->JS
open List renaming length_append->Ja,mem_iff_getElem->Jd,mem_singleton->Jf,take_succ_eq_append_getElem->Jg,getElem_mem->Jh,mem_append->Ji,getD_eq_getElem?_getD->Jj,mem_append_left->Jl,take_of_length_le->Jn,replicate->Jo,all_eq_true->Jp,length_cons->Jq,length_take->Jr,mem_range->Js,length_set->Jt,length_nil->Ju,getElem_map->Jv,foldl_append->Jw,length_replicate->Jx,length_singleton->Jy,getElem?_eq_some_iff->Jz,getElem_set_self->JC,map_cons->JD,append_assoc->JE,pairwise_iff_getElem->JG,getElem_set_ne->JH,append_nil->JI,map_nil->JL,mem_append_right->JM,eq_nil_of_length_eq_zero->JN,mem_cons_of_mem->JO,mem_of_mem_take->JP,getElem_of_mem->JQ,mem_filter->JR,filter_append->JT,getElem?_append_left->JU,getElem?_eq_getElem->JV,length_drop->JX,length_filter_le->JY,mem_of_mem_drop->JZ,take_zero->J0,flatMap_append->J1,nil_append->J7,idxOf_cons->J8,take_left->J9,drop_left->Ka,mem_cons->Kb,take_nil->Kc
open Nat renaming zero_le->Jc,le_trans->Jk,mul_le_mul_right->JA,le_refl->JB,pow_le_pow_right->JF,lt_trichotomy->JJ,le_succ_of_le->JW,mul_le_mul_left->J2,lt_or_ge->J4,succ_le_succ->J6,le_succ->Kd
namespace Go.Proofs.YtomgpphpkcoolaaGreat
open Go.V Go
open Tryz (prog)
section
attribute [local go_sem] Qbm
def QsE(k:Nat)(c:VCalls P g args0 [B] fun r h'=>r=r0/\h'=[B'])(hk:hp[k]?=some B)(hB:B.live=true/\DV.nums.go (fun _=>false) B.cells=true)(hB':DV.nums.go (fun _=>false) B'.cells=true)(ha0:args0=args.map (DV.ren fun j=>[k].idxOf j))(ha:DV.nums.go [k].contains args=true)(hr:r0.ren (back [k] hp.length)=r2)(h:K r2 (hp.set k B')):VCalls P g args hp K:=by
 subst hr
 have hlt:k<hp.length:=(Jz.1 hk).1
 have hg:hp.getD k default=B:=by rw[Jj,hk]; rfl
 have hpl:Qhh hp [k]:=⟨⟨hlt,by rw[hg]; exact hB.2⟩,trivial⟩
 refine(VCalls.frame [k] (by simp) (by rw[Qdl hpl]; simp only[JD,JL,hg]) (Qdm hpl) c ha0 ha).mono ?_
 rintro r h2 ⟨r1,h',⟨rfl,rfl⟩,-,rfl,rfl⟩
 rw[Qrv hlt,JL,JI,QaT hB']
 exact h
def dvO(k n:Nat)(wr:Int)(dead:Bool):DV:=.agg [.own k 1 0 n,.int .i64 wr,.pv (.sl []),.bool dead,.pv (.sl [])]
def QBy(l:List (List UInt8))(i:Nat)(s:List UInt8)(h:i<l.length):(cells QdX l).set i (.pv (.str s))=cells QdX (l.set i s):=by
 rw[Qwg,Qwg,List.map_set]
def QoI(ps:List (List UInt8))(wr:Int)(dead:Bool)(i:Nat)(hi:i<ps.length)(h6:(ps.getD i []).length=256)(s:List UInt8)(n:Nat)(hn:n<=256)(hs:s.length=256) :
 VCalls prog 131 [dvO 0 ps.length wr dead,.int .i64 i,.pv (.str s),.int .i64 n] [⟨9,true,cells QdX ps⟩] (fun r h'=>r=dvO 0 ps.length wr dead/\h'=[⟨9,true,cells QdX (ps.set i (s.take n++(ps.getD i []).drop n))⟩]):=by
 unfold dvO
 refine dd Tryz.func131 ?_
 have c1:=Qqo i
 have hg:=Qrq ps i hi
 have hse:=fun s=>QBy ps i s hi
 generalize ps.getD i []=q at *
 (unfold Tryz.f131; refine rn trivial ?_)
 have hlt:(i<ps.length)=True:=eq_true hi
 have F:=(Jb @hg (Jb @hse @hlt))
 refine rn F ?_
 repeat' (first
  | with_reducible exact⟨⟩
  | refine vp F (c1) ?_
  | (refine Qd (id:=1) [0,1,2,3,4,5,6,7,8,9,10,11,12,13,14] [⟨[],[],15,[],[]⟩] (by kernel_rfl) (by kernel_rfl) ?_; refine rn F ?_))
 all_goals exact⟨rfl,rfl⟩
def cpD(o:Nat)(v:Dv):List DV:=[.own (o+2) 1 0 v.ps.length,.int .i64 v.wr,.own (o+3) 1 0 0,.bool v.dead,.own (o+4) 6 0 0]
def Qri(v:Dv)(o:Nat):Qb:=[⟨66,true,cpD o v⟩,⟨66,true,cpD o v⟩,⟨9,true,cells QdX v.ps⟩,⟨3,true,[]⟩,⟨236,true,[]⟩]
def QB2(v:Dv)(hl:v.ps.length<=100000):VCalls prog 130 [.agg v.d] [] fun r h'=>r=.agg (cpD 0 v)/\h'=Qri v 0:=by
 refine Qbf (fn:=Tryz.f130) Tryz.func130 rfl (by kernel_rfl) (by simp[Tryz.f130]) ?_
 unfold cpD Qri
 have hb:v.ps.length*16<=140737488355328:=by omega
 (unfold Tryz.f130; refine rn trivial ?_)
 have F:=@hb
 (refine rn F ?_; try with_reducible exact⟨⟩)
 all_goals first | rfl | exact⟨rfl,rfl⟩
def QsH(v:Dv)(hl:v.ps.length<=100000)(h:K (.agg (cpD hp.length v)) (hp++Qri v hp.length)):VCalls prog 130 [.agg v.d] hp K:=by
 refine(VCalls.frame [] List.nodup_nil rfl rfl (QB2 v hl) rfl rfl).mono ?_
 rintro r h2 ⟨r0,h',⟨rfl,rfl⟩,-,rfl,rfl⟩
 rw[Qi9]
 have e3:Qc5 (back [] hp.length) ⟨9,true,cells QdX v.ps⟩=⟨9,true,cells QdX v.ps⟩:=QaT (Qw _ _ _)
 simp only[Qri,JD,JL,e3] at h |-
 exact h
@[go_sem] def dvD(a:Dv×Int):DV:=.tup [.agg a.1.d,.int .i64 a.2]
def dvQ(a:Dv×Int):Prop:=a.1.ps.length<=64
def QBG(v:Dv)(hl:v.ps.length<=100000)(pg:Int)(s:List UInt8)(hs0:s.length<=1000000)(n:Int):VCalls prog 98 [.agg v.d,.int .i64 pg,.pv (.str s),.int .i64 n] [] (QL dvD dvQ):=by
 refine dk Tryz.func98 ?_
 have c1:=Qg8 v hl pg
 (unfold Tryz.f98; refine rn trivial ?_)
 refine Qp c1 rfl ?_
 rintro e he
 by_cases h0:e=0
 rotate_left
 ·skip
  have F:=@h0
  refine rn F ?_
  exact⟨rfl,rfl,(Dv0,e),rfl,Jc _⟩
 obtain⟨q1,q2,q3⟩:=he h0
 subst h0
 have F:=trivial
 refine rn F ?_
 repeat' (first
  | with_reducible exact⟨⟩
  | (refine sG F ?_ ?_<;>intro hZ)
  | (refine sB F ?_ ?_<;>intro hZ))
 all_goals first
  | exact⟨rfl,rfl,(Dv0,_),rfl,Jc _⟩
  | skip
 obtain⟨i,rfl⟩:∃ i:Nat,pg=i:=⟨pg.toNat,by omega⟩
 obtain⟨m,rfl⟩:∃ m:Nat,n=m:=⟨n.toNat,by omega⟩
 have hi:i<v.ps.length:=by omega
 refine QsH v hl ?_
 unfold Qri cpD
 refine rn trivial ?_
 refine VCalls.neA ?_
 have hpos:0<v.ps.length:=by omega
 simp only[JD,JL,DV.ne,QuI hpos,Qo8,QAk]
 refine QsE 4 (QoI v.ps v.wr v.dead i hi (q1.2.2 i hi) s m (by omega) (by omega)) rfl ⟨rfl,Qw _ _ _⟩ (Qw _ _ _) rfl rfl (r2:=dvO 4 v.ps.length v.wr v.dead) rfl ?_
 unfold dvO
 have hle:∀ x,(v.ps.set i x).length=v.ps.length:=fun x=>Jt
 have F:=@hle
 refine rn F ?_
 exact⟨rfl,rfl,(⟨v.ps.set i (s.take m++(v.ps.getD i []).drop m),v.wr,v.dead⟩,0),rfl,by unfold dvQ; dsimp only; rw[hle]; exact q1.1.2⟩
def Qt8(n:Int)(hn:n<=64):VCalls prog 39 [.int .i64 n] [] (QL (fun l:List (List UInt8)=>.pv (.sl (fz QdX l))) fun l=>l.length<=64):=by
 refine dk Tryz.func39 ?_
 (unfold Tryz.f39; refine rn trivial ?_)
 refine VLoop.nilOwn 3 9 1 rfl ?_
 refine rn trivial ?_
 refine Qj (fun s:{s:Nat×List (List UInt8) // s.1<=64/\s.2.length=s.1}=>⟨16,0,[(4,.int .i64 s.1.1),(3,.own 0 1 0 s.1.2.length),(0,.int .i64 n)],[⟨9,true,cells QdX s.1.2⟩]⟩) (fun s=>64-s.1.1) ⟨(0,[]),by simp⟩ (gc [0]) ?_
 rintro⟨⟨i,out⟩,hi,ho⟩
 dsimp only at hi ho |-
 have hb:(out.length+1)*16<=140737488355328:=by omega
 have hm:(((1:Nat):Int)*256<=281474976710656)=True:=eq_true (by decide)
 have hcw:=fun(hp:Qb) (k o n:Nat)=>QgH (hp:=hp) (k:=k) (off:=o) (len:=n) QHn
 have hcv:∀ hp:Qb,QBa hp 0 256 (some (cells Qfl (Jo 256 0)))=some (.pv (.str (Jo 256 0)),hp):=fun hp=>Qfs (by simp)
 have F:=(Jb @hb (Jb @hm (Jb @hcw @hcv)))
 refine rn F ?_
 repeat' (first
  | with_reducible exact⟨⟩
  | (refine sB F ?_ ?_<;>intro hZ))
 all_goals first
  | exact⟨⟨(i+1,out++[Jo 256 0]),by dsimp only; omega,by simp; omega⟩,by dsimp only; omega,by dsimp only; rw[Ja]; exact(gc [3])⟩
  | exact⟨rfl,rfl,out,rfl,by omega⟩
  | skip
end
section
attribute [local go_sem] Qbm
def QtX(v:Dv)(hl:v.ps.length<=100000)(pg:Int)(s:List UInt8)(hs0:s.length<=1000000):VCalls prog 92 [.agg v.d,.int .i64 pg,.pv (.str s)] [] (QL dvD dvQ):=by
 refine dk Tryz.func92 ?_
 have c1:=Qg8 v hl pg
 (unfold Tryz.f92; refine rn trivial ?_)
 refine Qp c1 rfl ?_
 rintro e he
 by_cases h0:e=0
 rotate_left
 ·skip
  have F:=@h0
  refine rn F ?_
  exact⟨rfl,rfl,(Dv0,e),rfl,Jc _⟩
 obtain⟨q1,q2,q3⟩:=he h0
 subst h0
 have F:=trivial
 refine rn F ?_
 repeat' (first
  | with_reducible exact⟨⟩
  | (refine sB F ?_ ?_<;>intro hZ))
 all_goals first
  | exact⟨rfl,rfl,(Dv0,_),rfl,Jc _⟩
  | skip
 obtain⟨i,rfl⟩:∃ i:Nat,pg=i:=⟨pg.toNat,by omega⟩
 have hi:i<v.ps.length:=by omega
 have hwr:=q1.2.1
 refine QsH v hl ?_
 unfold Qri cpD
 have F:=trivial
 refine rn F ?_
 refine Qj (fun _:Unit=>⟨166,0,[(11,.int .i64 0),(10,.pv (.slc [])),(9,.ptr 4 0),(6,.ptr 1 0),(3,.ptr 0 0),(2,.pv (.str s)),(1,.int .i64 i)],[⟨66,true,v.d⟩,⟨66,true,[.pv (.slc []),.int .i64 0,.pv (.slc []),.bool false,.pv (.slc [])]⟩,⟨9,true,cells QdX v.ps⟩,⟨3,true,[]⟩,⟨66,true,[.own 2 1 0 v.ps.length,.int .i64 (v.wr+1),.own 3 1 0 0,.bool v.dead,.pv (.slc [])]⟩]⟩) (fun _=>0) () (gc [0,1,4,5,7]) ?_
 intro _
 have F:=trivial
 refine rn F ?_
 refine Qj (fun _:Unit=>⟨166,0,[(13,.int .i64 0),(12,.bool false),(10,.pv (.slc [])),(9,.ptr 3 0),(6,.ptr 0 0),(2,.pv (.str s)),(1,.int .i64 i)],[⟨66,true,[.pv (.slc []),.int .i64 0,.pv (.slc []),.bool false,.pv (.slc [])]⟩,⟨9,true,cells QdX v.ps⟩,⟨3,true,[]⟩,⟨66,true,[.own 1 1 0 v.ps.length,.int .i64 (v.wr+1),.own 2 1 0 0,.bool v.dead,.pv (.slc [])]⟩]⟩) (fun _=>0) () (gc [1,2,3,4]) ?_
 intro _
 have F:=trivial
 refine rn F ?_
 refine VCalls.wkA (VCalls.neA ?_)
 have hpos:0<v.ps.length:=by omega
 refine rn trivial ?_
 simp only[JD,JL,DV.ne,QuI hpos,Qo8,QAk,DV.wk,DV.wk.go,PV.wk]
 refine QsE 1 (QoI v.ps (v.wr+1) v.dead i hi (q1.2.2 i hi) s 256 (by omega) (by omega)) rfl ⟨rfl,Qw _ _ _⟩ (Qw _ _ _) rfl rfl (r2:=dvO 1 v.ps.length (v.wr+1) v.dead) rfl ?_
 unfold dvO
 have hle:∀ x,(v.ps.set i x).length=v.ps.length:=fun x=>Jt
 have F:=@hle
 refine rn F ?_
 have hlL:=hle (s.take 256++(v.ps.getD i []).drop 256)
 generalize v.ps.set i (s.take 256++(v.ps.getD i []).drop 256)=L at *
 refine Qj (fun _:Unit=>⟨166,0,[(14,.int .i64 0),(10,.pv (.slc [])),(9,.ptr 2 0),(6,.ptr 0 0)],[⟨66,true,[.pv (.slc []),.int .i64 0,.pv (.slc []),.bool false,.pv (.slc [])]⟩,⟨9,true,cells QdX L⟩,⟨66,true,[.own 1 1 0 v.ps.length,.int .i64 (v.wr+1),.pv (.sl []),.bool v.dead,.pv (.sl [])]⟩]⟩) (fun _=>0) () (gc [0,1,3]) ?_
 intro _
 have F:=@hlL
 refine rn F ?_
 exact⟨rfl,rfl,(⟨L,v.wr+1,v.dead⟩,0),rfl,by unfold dvQ; have:=q1.1.2; dsimp only; omega⟩
end
section
attribute [local go_sem] Qbm
def QjD(n:Nat)(hn:n<=1000):VCalls prog 127 [.int .i64 n] [] (Ret (.pv (.str (Jo n 0)))):=by
 refine dd Tryz.func127 ?_
 have hm:(((1:Nat):Int)*(n:Int)<=281474976710656)=True:=eq_true (by omega)
 have hm2:((n:Int)*((1:Nat):Int)<=281474976710656)=True:=eq_true (by omega)
 have hcw:=fun(hp:Qb) (k o n:Nat)=>QgH (hp:=hp) (k:=k) (off:=o) (len:=n) QHn
 have hcv:∀ hp:Qb,QBa hp 0 n (some (cells Qfl (Jo n 0)))=some (.pv (.str (Jo n 0)),hp):=fun hp=>Qfs (by simp)
 have hm3:((0:Int)<=(n:Int)/\(n:Int)<=(n:Int)/\(n:Int)<=9223372036854775807)=True:=eq_true ⟨by omega,by omega,by omega⟩
 (unfold Tryz.f127; refine rn (Jb @hm (Jb @hm2 (Jb @hm3 (Jb @hcw @hcv)))) ?_; try with_reducible exact⟨⟩)
def Qyf:VCalls prog 230 [] [] (Ret (.pv (.str (Jo 256 0)))):=by
 refine dd Tryz.func230 ?_
 have c1:=QjD 256 (by omega)
 (unfold Tryz.f230; refine rn trivial ?_)
 refine rn F ?_
 repeat' (first
  | with_reducible exact⟨⟩
  | refine vp F (c1) ?_)
def QDw(x:Pg)(i:Nat)(h:i<16):x.d[2+i*2+1]?=some (.pv (.str (x.cel i).data)):=by
 have:i=0\/i=1\/i=2\/i=3\/i=4\/i=5\/i=6\/i=7\/i=8\/i=9\/i=10\/i=11\/i=12\/i=13\/i=14\/i=15:=by omega
 rcases this with h | h | h | h | h | h | h | h | h | h | h | h | h | h | h | h<;>subst h<;>rfl
def QCm(h:QaW p=0)(i:Nat)(hi:i<16):(p.cel i).data.length<=12:=by
 have:=Qwe h
 unfold Pg.okB Pg.celB at this
 simp only[Je,Jp,Js] at this
 have:=this.2 i hi
 unfold Pg.celC Ce.okB at this
 simp only[Je,decide_eq_true_eq] at this
 exact this.1.1
def Qnw(p:Pg):VCalls prog 91 [.agg p.d] [] (QL siD fun a=>a.1.length<=256):=by
 refine dd Tryz.func91 ?_
 have c1:=QdP p
 have hcel:=QCm (p:=p)
 by_cases hk:QaW p=0
 rotate_left
 ·generalize QaW p = k at *
  (unfold Tryz.f91; refine rn trivial ?_)
  have F:=@hk
  refine rn F ?_
  repeat' (first
   | with_reducible exact⟨⟩
   | refine vp F (c1) ?_)
  exact⟨rfl,rfl,([],k),rfl,Jc _⟩
 rw[hk] at c1
 have hcel:=hcel hk
 have c2:=QY [] (by simp) p.lsn 8 (by omega) (by omega)
 have c3:=QY (Qn [] p.lsn 8) (by rw[Qe]; simp) p.id 4 (by omega) (by omega)
 have hl0:(Qn (Qn [] p.lsn 8) p.id 4).length=12:=by rw[Qe,Qe]; rfl
 (unfold Tryz.f91; refine rn trivial ?_)
 have F:=trivial
 refine rn F ?_
 repeat' (first
  | with_reducible exact⟨⟩
  | refine vp F (c1) ?_
  | refine vp F (c2) ?_
  | refine vp F (c3) ?_)
 generalize Qn (Qn [] p.lsn 8) p.id 4=s0 at *
 refine Qj (fun s:{s:Nat×List UInt8 // s.1<=16/\s.2.length=12+13*s.1}=>⟨69,0,[(6,.int .i64 s.1.1),(5,.pv (.str s.1.2)),(1,.ptr 0 0)],[⟨155,true,p.d⟩]⟩) (fun s=>16-s.1.1) ⟨(0,s0),by simp; exact hl0⟩ (gc [0]) ?_
 rintro⟨⟨i,t⟩,hi,ht⟩
 dsimp only at hi ht |-
 have hg:=fun h:i<16=>QpL p i h
 have hg0:=fun h:i<16=>Qwi p i h
 have hg1:=fun h:i<16=>QDw p i h
 have hdl:=fun h:i<16=>hcel i h
 generalize p.cel i=c at *
 have d1:=fun n=>QY t (by omega) n 1 (by omega) (by omega)
 have hpl:=fun n=>Qe t n 1
 by_cases hi16:i<16
 ·have hdl:=hdl hi16
  have d2:=QjD (12-c.data.length) (by omega)
  rw[show((12-c.data.length:Nat):Int)=12-(c.data.length:Int) by omega] at d2
  have hcd:(c.data++Jo (12-c.data.length) (0:UInt8)).length=12:=by rw[Ja,Jx]; omega
  have hadd:=fun n=>Qdg (a:=Qn t n 1) (b:=c.data++Jo (12-c.data.length) (0:UInt8)) (by rw[hpl,hcd]; omega)
  have F:=(Jb @hg (Jb @hg0 (Jb @hg1 @hadd)))
  refine rn F ?_
  repeat' (first
   | with_reducible exact⟨⟩
   | (refine sB F ?_ ?_<;>intro hZ)
   | refine vp F (d1 _) ?_
   | refine vp F (d2) ?_
   | (refine Qd (id:=13) [0,1,2,3,4,5,6,7,8,9,10,11,12] [⟨[],[],13,[0,1,2,3,4,5,6,7,8,9,10,11],[14,15]⟩,⟨[],[],16,[],[]⟩] (by kernel_rfl) (by kernel_rfl) ?_; refine rn F ?_))
  ·exact⟨⟨(i+1,Qn t c.data.length 1++(c.data++Jo (12-c.data.length) 0)),by dsimp only; omega,by dsimp only; rw[Ja,Ja,Jx,hpl]; omega⟩,by dsimp only; omega,(gc [0])⟩
  ·exact⟨⟨(i+1,Qn t 255 1++(c.data++Jo (12-c.data.length) 0)),by dsimp only; omega,by dsimp only; rw[Ja,Ja,Jx,hpl]; omega⟩,by dsimp only; omega,(gc [0])⟩
 ·have hi:i = 16:=by omega
  subst hi
  have d2:=QjD (244-t.length) (by omega)
  rw[show((244-t.length:Nat):Int)=244-(t.length:Int) by omega] at d2
  have hle:(t++Jo (244-t.length) (0:UInt8)).length=244:=by rw[Ja,Jx]; omega
  obtain⟨u,hu⟩:∃ u,t++Jo (244-t.length) (0:UInt8)=u:=⟨_,rfl⟩
  rw[hu] at hle
  have d3:=QoG u (by omega)
  have d4:=fun n=>QY u (by omega) n 4 (by omega) (by omega)
  have hu4:=fun n=>Qe u n 4
  have d5:=fun n m=>QY (Qn u n 4) (by rw[hu4]; omega) m 8 (by omega) (by omega)
  have F:=@hu
  refine rn F ?_
  repeat' (first
   | with_reducible exact⟨⟩
   | refine vp F (d2) ?_
   | refine vp F (d3) ?_
   | refine vp F (d4 _) ?_
   | refine vp F (d5 _ _) ?_)
  exact⟨rfl,rfl,(Qn (Qn u _ 4) _ 8,0),rfl,by dsimp only; rw[Qe,hu4]; omega⟩
end
section
attribute [local go_sem] Qbm
@[go_sem] def piD(a:Pg×Int):DV:=.tup [.agg a.1.d,.int .i64 a.2]
def QxR(n:Int):VCalls prog 205 [.int .i64 n] [] (Ret (.agg (Pg.d ⟨n,0,fun _=>Ce0⟩))):=by
 refine dd Tryz.func205 ?_
 (unfold Tryz.f205; refine rn trivial ?_)
 rfl
def QBR(s:List UInt8)(hs:s.length<=1000000):VCalls prog 204 [.pv (.str s)] [] (QL piD fun _=>True):=by
 refine dd Tryz.func204 ?_
 have c1:=Qyf
 (unfold Tryz.f204; refine rn trivial ?_)
 by_cases hl:s.length=256
 rotate_left
 ·have hl':¬ (s.length:Int) = 256:=by omega
  have F:=@hl'
  refine rn F ?_
  exact⟨rfl,rfl,(Pg0,2),rfl,trivial⟩
 have c2:=fun(a k:Nat) (h:1<=k/\k<=8) (hh:a+k<=s.length)=>QiK s (by omega) a k h hh
 have g1:=c2 244 4 (by omega) (by omega)
 have g2:=c2 0 8 (by omega) (by omega)
 have g3:=c2 8 4 (by omega) (by omega)
 have c3:=fun u h=>QoG u h
 have c4:=Qnw
 have F:=@hl
 refine rn F ?_
 repeat' (first
  | with_reducible exact⟨⟩
  | (refine sB F ?_ ?_<;>intro hZ)
  | refine vp F (c1) ?_
  | refine vp F (g1) ?_
  | refine vp F (g2) ?_
  | refine vp F (g3) ?_
  | (refine vp F (c3 _ (by simp; omega)) ?_)
  | (refine Qd (id:=5) [0,1,2,3,4] [⟨[],[],5,[0,1,2,3],[]⟩] (by kernel_rfl) (by kernel_rfl) ?_; refine rn F ?_))
 all_goals first
  | exact⟨rfl,rfl,(Pg0,_),rfl,trivial⟩
  | skip
 refine Qj (fun r:{r:Nat×Pg // r.1<=16}=>⟨95,0,[(7,.int .i64 r.1.1),(6,.ptr 1 0),(2,.ptr 0 0),(0,.pv (.str s))],[⟨155,true,Pg0.d⟩,⟨155,true,r.1.2.d⟩]⟩) (fun r=>16-r.1.1) ⟨(0,⟨IntKind.i64.wrap (Qfi s 8 4),IntKind.i64.wrap (Qfi s 0 8),fun _=>Ce0⟩),by simp⟩ (gc [0,1]) ?_
 rintro⟨⟨i,p⟩,hi⟩
 dsimp only at hi |-
 have hgs:i<16->s[12+i*13]?=some (s.getD (12+i*13) 0):=fun h=>by rw[Jj,JV (by omega)]; rfl
 have hix:(12+(i:Int)*13).toNat=12+i*13:=by omega
 have hce:=fun(h:i<16) b d=>Qkk p i h ⟨b,d⟩
 generalize hq:s.getD (12+i*13) 0=q at *
 have hqb:=q.toNat_lt
 have c5:=c4 p
 have F:=(Jb @hgs (Jb @hix (Jb @hce @hl)))
 refine rn F ?_
 repeat' (first
  | with_reducible exact⟨⟩
  | (refine sG F ?_ ?_<;>intro hZ)
  | (refine sB F ?_ ?_<;>intro hZ)
  | (refine Qp (c5) rfl ?_; rintro⟨t,e⟩ -; refine rn F ?_))
 all_goals first
  | exact⟨rfl,rfl,(Pg0,_),rfl,trivial⟩
  | exact⟨rfl,rfl,(p,0),rfl,trivial⟩
  | exact⟨⟨(i+1,p),by dsimp only; omega⟩,by dsimp only; omega,(gc [0,1])⟩
  | exact⟨⟨(i+1,p.setc i ⟨true,List.drop (12+(i:Int)*13+1).toNat (List.take (12+(i:Int)*13+1+q.toNat).toNat s)⟩),by dsimp only; omega⟩,by dsimp only; omega,(gc [0,1])⟩
  | skip
def Qx4(s:List UInt8)(hs:s.length<=1000000)(n:Int):VCalls prog 156 [.pv (.str s),.int .i64 n] [] (QL piD fun a=>a.2=0->a.1.id=n):=by
 refine dd Tryz.func156 ?_
 have c1:=QBR s hs
 have c2:=QxR n
 (unfold Tryz.f156; refine rn trivial ?_)
 refine rn F ?_
 repeat' (first
  | with_reducible exact⟨⟩
  | (refine sG F ?_ ?_<;>intro hZ)
  | (refine sB F ?_ ?_<;>intro hZ)
  | (refine Qp (c1) rfl ?_; rintro⟨p,e⟩ -; refine rn F ?_)
  | refine vp F (c2) ?_)
 all_goals first
  | exact⟨rfl,rfl,(Pg0,_),rfl,fun h=>by simp at h⟩
  | exact⟨rfl,rfl,(⟨n,0,fun _=>Ce0⟩,0),rfl,fun _=>rfl⟩
  | exact⟨rfl,rfl,(p,e),rfl,fun h=>by dsimp only at h |-; omega⟩
  | skip
def QxZ(l:List Rw)(hl:l.length<=64)(n hd:Int)(s:List UInt8)(hs:s.length<=1000000):VCalls prog 106 [.agg [.pv (.sl (fz Qcr l))],.int .i64 n,.int .i64 hd,.pv (.str s)] [] (QL piD fun a=>a.2=0->a.1.id=n):=by
 refine dd Tryz.func106 ?_
 have c1:=QbM l (by omega)
 have c2:=Qx4 s hs n
 have hg:=fun h:n.toNat<l.length=>Qml l n.toNat h
 generalize ixB l=b at *
 (unfold Tryz.f106; refine rn trivial ?_)
 have F:=@hg
 refine rn F ?_
 repeat' (first
  | with_reducible exact⟨⟩
  | (refine sG F ?_ ?_<;>intro hZ)
  | (refine sB F ?_ ?_<;>intro hZ)
  | refine vp F (c1) ?_
  | (refine Qp (c2) rfl ?_; rintro⟨p,e⟩ hp; refine rn F ?_)
  | (refine Qd (id:=8) [0,1,2,3,4,5,6,7,8,9,10,11,12,13,14] [⟨[],[],15,[0,1,2,3,5,6,7,8,9,10,11,12,13],[]⟩] (by kernel_rfl) (by kernel_rfl) ?_; refine rn F ?_)
  | (refine Qd (id:=10) [0,1,2,3,4,5,6,7,8] [⟨[],[],9,[0,1,2,3,4,5,6,7],[]⟩] (by kernel_rfl) (by kernel_rfl) ?_; refine rn F ?_))
 all_goals first
  | exact⟨rfl,rfl,(Pg0,e),rfl,fun h=>absurd h (by assumption)⟩
  | (focus (refine⟨rfl,rfl,(Pg0,_),rfl,fun h=>?_⟩; simp at h; done))
  | exact⟨rfl,rfl,(p,0),rfl,fun _=>hp (by dsimp only; omega)⟩
  | skip
end
section
attribute [local go_sem] Qbm
theorem QHj(e:E)(l:List E):(.pv (.lit (.int .i64 e.lsn))::.pv (.lit (.int .i64 e.kind))::.pv (.lit (.int .i64 e.tx))::.pv (.lit (.int .i64 e.ptx))::.pv (.lit (.int .i64 e.ppg))::.pv (.lit (.int .i64 e.ref))::.pv (.lit (.int .i64 e.c.pg))::.pv (.lit (.int .i64 e.c.sl))::.pv (.lit (.bool e.c.b.set))::.pv (.str e.c.b.data)::.pv (.lit (.bool e.c.a.set))::.pv (.str e.c.a.data)::.pv (.str e.blob)::cells encE l:List DV)=cells encE (e::l):=rfl
def Qx6(e:E)(l:List E)(hl:l.length<=100000):VCalls prog 234 [.agg e.d,.pv (.sl (fz encE l))] [] (Ret (.pv (.sl (fz encE (e::l))))):=by
 refine dk Tryz.func234 ?_
 have hc:=QHj e l
 have hb:(1+l.length)*128<=140737488355328:=by omega
 have hlen:(e::l).length=1+l.length:=by simp; omega
 (unfold Tryz.f234; refine rn (Jb @hc (Jb @hb @hlen)) ?_; try with_reducible exact⟨⟩)
@[go_sem] def esD(a:List E×Int):DV:=.tup [.pv (.sl (fz encE a.1)),.int .i64 a.2]
def Qn3{x:Lg}{n:Int}(h:(QbA x n).2=0):lgB x=true/\x.f<=n/\n<=x.end_/\(QbA x n).1.lsn=n/\(QbA x n).1.okB=true:=by
 unfold QbA at h |-
 split at h
 ·simp at h
 rename_i q1
 split at h
 ·simp at h
 rename_i q2
 rw[if_neg q1,if_neg q2]
 have hv:lgB x=true:=by simpa using q1
 have hv2:=hv
 unfold lgB at hv2
 simp only[Je,Jp,Js] at hv2
 have hd:=hv2.1
 simp only[decide_eq_true_eq,Lg.hd] at hd
 have:=hv2.2 (n-x.f).toNat (by simp only[Lg.end_] at q2; omega)
 unfold lgC at this
 simp only[Je,decide_eq_true_eq] at this
 dsimp only
 exact⟨hv,by omega,by omega,by omega,this.2⟩
def QCk{e:E}(h:e.okB=true):0<=e.ppg/\e.ppg<e.lsn:=by
 unfold E.okB bef at h
 simp only[Je,decide_eq_true_eq] at h
 omega
structure Ch7(x:Lg) where
 at_:Int
 out:List E
 ok:out=[]\/at_+out.length<=x.f+x.es.length
 nn:0<=at_
 le:out.length<=4097
def Qye(x:Lg)(hx:x.es.length<=4096)(pg last above:Int):VCalls prog 231 [.agg x.c,.int .i64 pg,.int .i64 last,.int .i64 above] [] (QL esD fun a=>a.1.length<=4097):=by
 refine dk Tryz.func231 ?_
 have c1:=Qax x (by omega)
 have c2:=QiL x (by omega)
 have hok:=@Qn3 x
 (unfold Tryz.f231; refine rn trivial ?_)
 cases hv:lgB x
 ·rw [hv] at c1
  refine rn F ?_
  repeat' (first
   | with_reducible exact⟨⟩
   | refine vp F (c1) ?_)
  exact⟨rfl,rfl,([],26),rfl,Jc _⟩
 rw[hv] at c1
 have hd:=QaG hv
 simp only[Lg.hd] at hd
 refine rn F ?_
 repeat' (first
  | with_reducible exact⟨⟩
  | (refine sG F ?_ ?_<;>intro hZ)
  | (refine sB F ?_ ?_<;>intro hZ)
  | refine vp F (c1) ?_)
 all_goals first
  | exact⟨rfl,rfl,([],1),rfl,Jc _⟩
  | skip
 refine VLoop.wkS ?_
 refine rn trivial ?_
 refine Qj (fun s:Ch7 x=>⟨62,0,[(11,.int .i64 s.at_),(10,.pv (.sl (fz encE s.out))),(4,.ptr 0 0),(3,.int .i64 above),(1,.int .i64 pg)],[⟨26,true,x.c⟩]⟩) (fun s=>s.at_.toNat) ⟨last,[],.inl rfl,by omega,Jc _⟩ (gc [0]) ?_
 rintro⟨at_,out,ok,nn,le⟩
 dsimp only
 have c3:=c2 at_
 have hok:=hok (n:=at_)
 generalize QbA x at_=g at *
 have c4:=Qcx g.1
 have c5:=Qx6 g.1 out (by omega)
 refine rn F ?_
 repeat' (first
  | with_reducible exact⟨⟩
  | (refine sG F ?_ ?_<;>intro hZ)
  | (refine sB F ?_ ?_<;>intro hZ)
  | refine vp F (c3) ?_
  | refine vp F (c4) ?_
  | refine vp F (c5) ?_
  | (refine Qd (id:=13) [0,1,3,4] [⟨[],[],2,[3,4],[]⟩,⟨[],[],5,[3,4],[]⟩,⟨[],[],6,[],[]⟩] (by kernel_rfl) (by kernel_rfl) ?_; refine rn F ?_))
 all_goals first
  | exact⟨rfl,rfl,([],_),rfl,Jc _⟩
  | exact⟨rfl,rfl,(out,0),rfl,le⟩
  | skip
 obtain⟨k1,k2,k3,k4,k5⟩:=hok (by omega)
 have hp:=QCk k5
 simp only[Lg.end_] at k3
 have ho:at_+out.length<=x.f+x.es.length:=by
  rcases ok with rfl | ok
  ·simp; omega
  ·exact ok
 exact⟨⟨g.1.ppg,g.1::out,.inr (by simp only[Jq]; omega),hp.1,by simp only[Jq]; omega⟩,by dsimp only; omega,(gc [0])⟩
def QEL(c:Ch):VCalls prog 161 [.agg c.d] [] (Ret (.agg (Ch.d ⟨c.pg,c.sl,c.a,c.b⟩))):=by
 refine dd Tryz.func161 ?_
 (unfold Tryz.f161; refine rn trivial ?_; try with_reducible exact⟨⟩)
def QCl{c:Ch}(h:c.okB=true):0<=c.sl/\c.sl<16:=by
 unfold Ch.okB at h
 simp only[Je,decide_eq_true_eq] at h
 omega
def QFU{a b:Ce}(h:a.set=b.set/\a.data=b.data):a=b:=by
 obtain⟨_,_⟩:=a; obtain⟨_,_⟩:=b; obtain⟨rfl,rfl⟩:=h; rfl
def QF5(a c:Bool)(b d:List UInt8):QV [.pv (.lit (.bool a)),.pv (.str b)] [.pv (.lit (.bool c)),.pv (.str d)] [(0,0),(1,2)]=some (a==c&&b==d):=by simp[QV,Qao]
def Qlp (p:Pg) (c:Ch):VCalls prog 162 [.agg p.d,.agg c.d] [] (QL piD fun a=>a.2 = 0->a.1.id = p.id/\p.cel c.sl.toNat = c.b):=by
 refine dd Tryz.func162 ?_
 have c1:=Qt6 c
 have hs:=QCl (c:=c)
 (unfold Tryz.f162; refine rn trivial ?_)
 cases hv:c.okB
 ·rw [hv] at c1
  refine rn F ?_
  repeat' (first
   | with_reducible exact⟨⟩
   | refine vp F (c1) ?_)
  exact⟨rfl,rfl,(Pg0,22),rfl,fun h=>by simp at h⟩
 rw[hv] at c1
 obtain⟨s1,s2⟩:=hs hv
 obtain⟨i,hi⟩:∃ i:Nat,c.sl=i:=⟨c.sl.toNat,by omega⟩
 have hi16:i<16:=by omega
 have hg:=QpL p i hi16
 have hce:=Qkk p i hi16 c.a
 have F:=(Jb @hi (Jb @hg (Jb @hce @QF5)))
 refine rn F ?_
 repeat' (first
  | with_reducible exact⟨⟩
  | (refine sB F ?_ ?_<;>intro hZ)
  | refine vl F (c1) ?_
  | (refine Qd (id:=5) [0,1,2,3,4,5,6,7] [⟨[],[],8,[0,1,2,3,4,5,6],[]⟩] (by kernel_rfl) (by kernel_rfl) ?_; refine rn F ?_))
 all_goals first
  | (refine ⟨rfl,rfl,(p.setc i c.a,0),rfl,fun _=>⟨rfl,?_⟩⟩
     first
      | (rw[hi,Jm]; exact QFU (by assumption))
      | exact QFU (by assumption))
  | (focus (refine⟨rfl,rfl,(Pg0,_),rfl,fun h=>?_⟩; simp at h; done))
  | skip
def Qyh(p:Pg)(e:E):VCalls prog 207 [.agg p.d,.agg e.d] [] (QL piD fun a=>a.2=0->a.1.id=p.id):=by
 refine dd Tryz.func207 ?_
 have c1:=QcQ e
 have c2:=Qcx e
 have c3:=QdP p
 have c4:=Qlp p e.c
 generalize e.okB=b at *
 generalize QaW p=k at *
 (unfold Tryz.f207; refine rn trivial ?_)
 refine rn F ?_
 repeat' (first
  | with_reducible exact⟨⟩
  | (refine sG F ?_ ?_<;>intro hZ)
  | (refine sB F ?_ ?_<;>intro hZ)
  | refine vp F (c1) ?_
  | refine vp F (c2) ?_
  | refine vp F (c3) ?_
  | (refine Qp (c4) rfl ?_; rintro⟨q,er⟩ hq; refine rn F ?_))
 all_goals first
  | exact⟨rfl,rfl,(⟨q.id,e.lsn,q.cel⟩,0),rfl,fun _=>(hq (by dsimp only; omega)).1⟩
  | exact⟨rfl,rfl,(Pg0,er),rfl,fun h=>absurd h (by assumption)⟩
  | exact⟨rfl,rfl,(Pg0,k),rfl,fun h=>absurd h (by assumption)⟩
  | (focus (refine⟨rfl,rfl,(Pg0,_),rfl,fun h=>?_⟩; simp at h; done))
  | skip
def QtJ(x:Lg)(hx:x.es.length<=4096)(p:Pg)(n:Int):VCalls prog 206 [.agg x.c,.agg p.d,.int .i64 n] [] (QL esD fun a=>a.1.length<=4097):=by
 refine dk Tryz.func206 ?_
 have c1:=Qax x (by omega)
 have c2:=QdP p
 have c3:=Qye x hx
 generalize lgB x=b at *
 generalize QaW p=k at *
 (unfold Tryz.f206; refine rn trivial ?_)
 refine rn F ?_
 repeat' (first
  | with_reducible exact⟨⟩
  | (refine sB F ?_ ?_<;>intro hZ)
  | refine vp F (c1) ?_
  | refine vp F (c2) ?_
  | (refine Qp (c3 _ _ _) rfl ?_; rintro⟨l,e⟩ hl; refine rn F ?_))
 all_goals first
  | exact⟨rfl,rfl,([],_),rfl,Jc _⟩
  | exact⟨rfl,rfl,(l,e),rfl,hl⟩
  | skip
@[go_sem] def QIo(a:Pg×Int×Int):DV:=.tup [.agg a.1.d,.int .i64 a.2.1,.int .i64 a.2.2]
def QxO(x:Lg)(hx:x.es.length<=4096)(p:Pg)(n:Int):VCalls prog 157 [.agg x.c,.agg p.d,.int .i64 n] [] (QL QIo fun a=>a.2.2=0->a.1.id=p.id):=by
 refine dk Tryz.func157 ?_
 have c1:=QtJ x hx p n
 (unfold Tryz.f157; refine rn trivial ?_)
 refine rn F ?_
 repeat' (first
  | with_reducible exact⟨⟩
  | (refine sB F ?_ ?_<;>intro hZ)
  | (refine Qp (c1) rfl ?_; rintro⟨l,e⟩ hl; refine rn F ?_))
 all_goals first
  | exact⟨rfl,rfl,(Pg0,0,e),rfl,fun h=>absurd h (by assumption)⟩
  | skip
 dsimp only at hl
 refine Qj (fun s:{s:Nat×Pg // s.1<=l.length/\s.2.id=p.id}=>⟨45,0,[(11,.int .i64 s.1.1),(9,.pv (.sl (fz encE l))),(6,.ptr 1 0),(4,.ptr 0 0)],[⟨155,true,s.1.2.d⟩,⟨155,true,Pg0.d⟩]⟩) (fun s=>l.length-s.1.1) ⟨(0,p),Jc _,rfl⟩ (gc [1,2]) ?_
 rintro⟨⟨i,q⟩,hi,hq⟩
 dsimp only at hi hq |-
 have hg:=fun h:i<l.length=>Qmm l i h
 have c2:=Qyh q (l.getD i E0)
 have F:=@hg
 refine rn F ?_
 repeat' (first
  | with_reducible exact⟨⟩
  | (refine sB F ?_ ?_<;>intro hZ)
  | (refine Qp (c2) rfl ?_; rintro⟨q2,e2⟩ hq2; refine rn F ?_)
  | (refine Qd (id:=7) [0,1,2,3,4] [⟨[],[],5,[1,2,3],[6,7,8]⟩,⟨[],[],9,[8],[]⟩,⟨[],[],10,[],[]⟩] (by kernel_rfl) (by kernel_rfl) ?_; refine rn F ?_))
 all_goals first
  | exact⟨rfl,rfl,(Pg0,0,e2),rfl,fun h=>absurd h (by assumption)⟩
  | exact⟨rfl,rfl,(q,l.length,0),rfl,fun _=>hq⟩
  | exact⟨⟨(i+1,q2),by dsimp only; omega,(hq2 (by dsimp only; omega)).trans hq⟩,by dsimp only; omega,(gc [0,1])⟩
  | skip
def QBL(x:Lg)(hx:x.es.length<=4096)(p:Pg)(n:Int):VCalls prog 107 [.agg x.c,.agg p.d,.int .i64 n] [] (QL piD fun a=>a.2=0->a.1.id=p.id):=by
 refine dd Tryz.func107 ?_
 have c1:=QxO x hx p n
 (unfold Tryz.f107; refine rn trivial ?_)
 refine rn F ?_
 repeat' (first
  | with_reducible exact⟨⟩
  | (refine Qp (c1) rfl ?_; rintro⟨q,m,e⟩ hq; refine rn F ?_))
 exact⟨rfl,rfl,(q,e),rfl,hq⟩
end
section
attribute [local go_sem] Qbm
structure Sv where
 k:Kn
 v:Dv
@[go_sem] def Sv.d(s:Sv):List DV:=[.int .i64 s.k.pg,.int .i64 s.k.nx,.int .i64 s.k.lg.f,.pv (.sl (fz encE s.k.lg.es)),.int .i64 s.k.lg.d,.int .i64 s.k.pl.size,.pv (.sl (fz QcM s.k.pl.fs)),.int .i64 s.k.pl.hand,.pv (.sl (fz Qau s.k.lk.held)),.pv (.sl (fz Qau s.k.lk.wait)),.pv (.sl (fz Qap s.k.tx)),.pv (.sl (fz Qcr s.k.ix)),.pv (.sl (fz Qc6 s.k.la)),.pv (.sl (fz QdX s.v.ps)),.int .i64 s.v.wr,.pv (.sl []),.bool s.v.dead,.pv (.sl [])]
def Sv0:Sv:=⟨Kn0,Dv0⟩
def Sv.sm(s:Sv):Prop:=s.k.sm/\s.v.ps.length<=64
def QdC:Sv0.sm:=⟨Qcb,Jc _⟩
@[go_sem] def svD(a:Sv×Int):DV:=.tup [.agg a.1.d,.int .i64 a.2]
def Zv:List DV:=[.int .i64 0,.int .i64 0,.int .i64 0,.pv (.slc []),.int .i64 0,.int .i64 0,.pv (.slc []),.int .i64 0,.pv (.slc []),.pv (.slc []),.pv (.slc []),.pv (.slc []),.pv (.slc []),.pv (.slc []),.int .i64 0,.pv (.slc []),.bool false,.pv (.slc [])]
def QrU(k:Kn)(x:Pg)(a:Sv×Int):Prop:=a.1.sm/\(a.2=0->∃ e',AddOk k (QHB x.id x.lsn) e'/\a.1.k.tx=k.tx/\(0<=Qbw k.pl x.id->a.1.k=k.wrt e'/\(QaV k.pl x.id x.lsn).2=0))
def Qit(hq:QrU k x a)(h:a.2=0)(hp:plB k.pl=true)(hi:i<k.pl.fs.length)(hid:idF k.pl.fs x.id=i)(hx:(k.pl.fs.getD i Fm0).pg=x):Str 0 k a.1.k/\a.1.k.pl=(QaV k.pl x.id x.lsn).1/\a.1.k.tx=k.tx:=by
 obtain⟨e',ha,h1,h2⟩:=hq.2 h
 have hf:Qbw k.pl x.id=i:=by unfold Qbw; rw[if_pos hp]; exact hid
 obtain⟨h3,h4⟩:=h2 (by rw[hf]; omega)
 obtain⟨_,_,s3,s4,_⟩:=ha.2.1
 refine⟨by rw[h3]; exact .one (.wrt ha rfl ⟨i,hi,hid,by rw[hx]; rfl,h4⟩),?_,h1⟩
 rw[h3]
 unfold Kn.wrt
 rw[s3,s4]
 rfl
def QoF (s:Sv) (hs:s.v.ps.length<=64) (k:Kn) (hk:k.sm) (x:Pg):VCalls prog 65 [.agg s.d,.agg k.d,.agg x.d] [] (QL svD (QrU k x)):=by
 refine dk Tryz.func65 ?_
 have c1:=Qnw x
 have c2:=fun(t:List UInt8) (h:t.length<=256)=>QtX s.v (by omega) x.id t (by omega)
 have c3:=Qqn k hk x.id x.lsn
 (unfold Tryz.f65; refine rn trivial ?_)
 refine rn F ?_
 repeat' (first
  | with_reducible exact⟨⟩
  | (refine sB F ?_ ?_<;>intro hZ)
  | (refine Qp (c1) rfl ?_; rintro⟨t,e1⟩ ht; refine rn F ?_)
  | (refine Qp (c2 t ht) rfl ?_; rintro⟨v1,e2⟩ hv; refine rn F ?_)
  | (refine Qp (c3) rfl ?_; rintro⟨k1,e3⟩ hq; refine rn F ?_))
 all_goals first
  | exact⟨rfl,rfl,(Sv0,e2),rfl,QdC,fun h=>absurd h (by assumption)⟩
  | exact⟨rfl,rfl,(Sv0,e3),rfl,QdC,fun h=>absurd h (by assumption)⟩
  | (have q:=hq.2 (by dsimp only; omega)
     exact⟨rfl,rfl,(⟨k1,v1⟩,0),rfl,⟨hq.1,hv⟩,fun _=>q⟩)
  | skip
def Qdv(l:List Fm):Nat:=l.countP (·.dirty)
def Qi0(l:List Fm):Qdv (l.map Fm.clr)=Qdv l:=by
 unfold Qdv; rw[List.countP_map]; rfl
def SameF.dirty(h:SameF l m):Qdv m=Qdv l:=by
 rw[<- Qi0 m,<- Qi0 l,show m.map Fm.clr=l.map Fm.clr from h]
def Qq7(l:List Fm)(i:Nat)(h:i<l.length)(hu:(l.getD i Fm0).dirty=true)(f:Fm)(hf:f.dirty=false):Qdv (l.set i f)<Qdv l:=by
 unfold Qdv
 rw[List.countP_set h]
 rw[Qf l i h] at hu
 have:0<l.countP (·.dirty):=List.countP_pos_iff.2 ⟨l[i],Jh h,hu⟩
 simp only[hu,hf,if_true]
 simp
 omega
def Qrk(hp:plB p=true)(hi:i<p.fs.length)(h1:idF p.fs x.id=i)(h2:(p.fs.getD i Fm0).pg=x)(h3:(p.fs.getD i Fm0).dirty=true):Qdv (QaV p x.id x.lsn).1.fs<Qdv p.fs:=by
 unfold QaV
 rw[if_neg (by rw[hp]; decide),h1,if_neg (by omega),Jm,h2,if_neg (by omega),if_neg (by rw[h3]; decide)]
 refine Qq7 _ _ hi h3 _ ?_
 unfold Qfe
 rw[h2,if_pos rfl]
def stQ(s:Sv)(a:Sv×Int):Prop:=a.1.sm/\(a.2=0->Str 0 s.k a.1.k/\a.1.k.tx=s.k.tx)
structure Rm(s0:Sv) where
 s:Sv
 sm:s.sm
 ev:Str 0 s0.k s.k
 tx:s.k.tx=s0.k.tx
def QxM(s:Sv)(hs:s.sm):VCalls prog 103 [.agg s.d] [] (QL svD (stQ s)):=by
 refine dk Tryz.func103 ?_
 (unfold Tryz.f103; refine rn trivial ?_)
 refine Qj (fun r:Rm s=>⟨36,0,[(2,.ptr 1 0),(1,.ptr 0 0)],[⟨68,true,r.s.d⟩,⟨68,true,Zv⟩]⟩) (fun r=>Qdv r.s.k.pl.fs) ⟨s,hs,Str.refl _,rfl⟩ (gc [0,1]) ?_
 rintro⟨s1,sm,ev,tx⟩
 dsimp only
 have c1:=QBK s1.k sm.1
 have c2:=fun k hk x=>QoF s1 sm.2 k hk x
 unfold Zv
 refine rn F ?_
 repeat' (first
  | with_reducible exact⟨⟩
  | (refine sB F ?_ ?_<;>intro hZ)
  | (refine Qp (c1) rfl ?_; rintro⟨k1,x,b,e⟩ hq; refine rn F ?_)
  | (refine Qp (c2 k1 hq.1 x) rfl ?_; rintro⟨s2,e2⟩ hq2; refine rn F ?_))
 ·exact⟨rfl,rfl,(Sv0,e),rfl,QdC,fun h=>absurd h (by assumption)⟩
 ·have q:=hq.2 (by dsimp only; omega)
  exact⟨rfl,rfl,(⟨k1,s1.v⟩,0),rfl,⟨hq.1,sm.2⟩,fun _=>⟨ev.trans q.1,q.2.1.trans tx⟩⟩
 ·exact⟨rfl,rfl,(Sv0,e2),rfl,QdC,fun h=>absurd h (by assumption)⟩
 ·have q:=hq.2 (by dsimp only; omega)
  obtain⟨p1,p2,i,p3,p4,p5,p6⟩:=q.2.2 (by dsimp only; first | assumption | simp_all)
  dsimp only at p1 p2 p3 p4 p5 p6
  obtain⟨r0,r1,r2⟩:=Qit hq2 (by dsimp only; omega) p1 p3 p4 p5
  have hlt:=Qrk p1 p3 p4 p5 p6
  rw[p2.dirty] at hlt
  dsimp only at r0 r1 r2
  exact⟨⟨s2,hq2.1,(ev.trans q.1).trans r0,r2.trans (q.2.1.trans tx)⟩,by dsimp only; rw[r1]; exact hlt,(gc [0,1])⟩
def QAw(s:Sv)(n:Int)(a:Sv×Int):Prop:=a.1.sm/\(a.2=0->Str 0 s.k a.1.k/\a.1.k.tx=s.k.tx/\0<=idF a.1.k.pl.fs n)
def QeN (s:Sv) (hs:s.sm) (n:Int):VCalls prog 72 [.agg s.d,.int .i64 n] [] (QL svD (QAw s n)):=by
 refine dk Tryz.func72 ?_
 have c1:=Qa2 s.k hs.1
 have c2:=QcR s.k.pl (Jk hs.1.2.1 (by decide)) n
 have c3:=QxM s hs
 have c4:=fun(t:Sv) (h:t.sm)=>Qx9 t.v (Jk h.2 (by decide)) n
 have c5:=fun(t:Sv) (h:t.sm)=>QnB t.k h.1 n
 have c6:=fun(t:Sv) (h:t.sm) (hd:Int) (b:List UInt8) (hb:b.length<=1000000)=>QxZ t.k.ix h.1.2.2.2.2.1 n hd b hb
 have c7:=fun(t:Sv) (h:t.sm) (p:Pg) (hd:Int)=>QBL t.k.lg h.1.1 p hd
 have c8:=fun(t:Sv) (h:t.sm) (p:Pg)=>Qto t.k h.1 p
 have hfi:0<=Qbw s.k.pl n->0<=idF s.k.pl.fs n:=fun h=>by unfold Qbw at h; split at h<;>omega
 have e0:∀ e,e≠0->QAw s n (Sv0,e):=fun e h=>⟨QdC,fun h2=>absurd h2 h⟩
 generalize Qbw s.k.pl n=fi at *
 (unfold Tryz.f72; refine rn trivial ?_)
 refine rn F ?_
 repeat' (first
  | with_reducible exact⟨⟩
  | (refine sG F ?_ ?_<;>intro hZ)
  | (refine sB F ?_ ?_<;>intro hZ)
  | (refine Qp (c1) rfl ?_; rintro b -; refine rn F ?_)
  | refine vp F (c2) ?_
  | (refine Qp (c3) rfl ?_; rintro⟨s1,e1⟩ hq1; refine rn F ?_)
  | (refine Qp (c4 s1 hq1.1) rfl ?_; rintro⟨t,e2⟩ ht; refine rn F ?_)
  | (refine Qp (c5 s1 hq1.1) rfl ?_; rintro hd -; refine rn F ?_)
  | (refine Qp (c6 s1 hq1.1 hd t (by have:=ht (by dsimp only; omega); dsimp only at this; omega)) rfl ?_; rintro⟨p,e3⟩ hp; refine rn F ?_)
  | (refine Qp (c7 s1 hq1.1 p hd) rfl ?_; rintro⟨p2,e4⟩ hp2; refine rn F ?_)
  | (refine Qp (c8 s1 hq1.1 p2) rfl ?_; rintro⟨k2,e5⟩ hq5; refine rn F ?_))
 all_goals first
  | exact⟨rfl,rfl,(s,0),rfl,hs,fun _=>⟨Str.refl _,rfl,hfi (by omega)⟩⟩
  | exact⟨rfl,rfl,(Sv0,_),rfl,e0 _ (by assumption)⟩
  | exact⟨rfl,rfl,(Sv0,15),rfl,e0 _ (by decide)⟩
  | exact⟨rfl,rfl,(Sv0,1),rfl,e0 _ (by decide)⟩
  | (have q1:=hq1.2 (by dsimp only; omega)
     have q5:=hq5.2 (by dsimp only; omega)
     have i3:=hp (by dsimp only; omega)
     have i4:=hp2 (by dsimp only; omega)
     dsimp only at q1 q5 i3 i4
     exact⟨rfl,rfl,(⟨k2,s1.v⟩,0),rfl,⟨hq5.1,hq1.1.2⟩,fun _=>⟨q1.1.trans q5.1,q5.2.2.1.trans q1.2,by dsimp only; have:=q5.2.2.2; rw[i4,i3] at this; exact this⟩⟩)
  | skip
end
section
attribute [local go_sem] Qbm
@[go_sem] def tiD(a:Tx×Int):DV:=.tup [.agg a.1.d,.int .i64 a.2]
@[go_sem] def ebD(a:E×Bool):DV:=.tup [.agg a.1.d,.bool a.2]
def QsP(h:0<=idT l a):(Qbh l a).id=a:=by
 rcases QI l a with hn | ⟨i,hi,hid,he⟩
 ·omega
 ·rw[Qee hid,Qf l i hi]; exact he
def QEH(k:Kn)(tx:Int)(a:Tx×Int):Prop:=a.1.l.length<=100000/\(a.2=0->VK k/\0<=idT k.tx tx/\a.1=Qbh k.tx tx/\a.1.st≠1)
def QdM(k:Kn)(h:k.sm)(tx:Int):VCalls prog 110 [.agg k.d,.int .i64 tx] [] (QL tiD (QEH k tx)):=by
 refine dk Tryz.func110 ?_
 have c1:=Qa2 k h
 obtain⟨h1,h2,h3,h4,h5,h6⟩:=h
 have c2:=Qcj k.tx (Jk h4.1 (by decide)) tx
 have e0:∀ e,e≠0->QEH k tx (Tx0,e):=fun e h=>⟨by simp[Tx0],fun h2=>absurd h2 h⟩
 rcases QI k.tx tx with hn | ⟨i,hil,hid,_⟩
 ·rw [hn] at c2
  (unfold Tryz.f110; refine rn trivial ?_)
  refine rn F ?_
  repeat' (first
   | with_reducible exact⟨⟩
   | (refine sB F ?_ ?_<;>intro hZ)
   | (refine Qp (c1) rfl ?_; rintro b -; refine rn F ?_)
   | refine vp F (c2) ?_)
  all_goals exact⟨rfl,rfl,(Tx0,_),rfl,e0 _ (by decide)⟩
 rw[hid] at c2
 have hg:=Qeq k.tx i hil
 have ht:(k.tx.getD i Tx0).l.length<=100000:=by rw[Qf _ _ hil]; exact(h4.2 _ (Jh hil)).1
 have he:Qbh k.tx tx=k.tx.getD i Tx0:=by unfold Qbh; rw[hid]; rfl
 (unfold Tryz.f110; refine rn trivial ?_)
 have F:=@hg
 refine rn F ?_
 repeat' (first
  | with_reducible exact⟨⟩
  | (refine sB F ?_ ?_<;>intro hZ)
  | (refine Qp (c1) rfl ?_; rintro b hb; refine rn F ?_)
  | refine vp F (c2) ?_)
 all_goals first
  | exact⟨rfl,rfl,(k.tx.getD i Tx0,0),rfl,ht,fun _=>⟨hb (by assumption),by omega,he.symm,by assumption⟩⟩
  | exact⟨rfl,rfl,(Tx0,15),rfl,e0 _ (by decide)⟩
  | exact⟨rfl,rfl,(Tx0,16),rfl,e0 _ (by decide)⟩
  | skip
def QnS(l:List Tx)(a:Int):Int:=(Qbh l a).l.getD ((Qbh l a).l.length-1) 0
def QjZ(l:List Tx)(g:Lg)(a:Int):E:=(QbA g (QnS l a)).1
def QCn(k:Kn)(tx:Int)(a:E×Bool):Prop:=a.2=true->VK k/\a.1=QjZ k.tx k.lg tx/\(QbA k.lg (QnS k.tx tx)).2=0/\Qjc k (Qbh k.tx tx) a.1
def QBU(k:Kn)(h:k.sm)(tx:Int):VCalls prog 112 [.agg k.d,.int .i64 tx] [] (QL ebD (QCn k tx)):=by
 refine dk Tryz.func112 ?_
 have c1:=QdM k h tx
 obtain⟨h1,h2,h3,h4,h5,h6⟩:=h
 have c2:=QiL k.lg (by omega)
 have e0:QCn k tx (E0,false):=fun h=>by cases h
 (unfold Tryz.f112; refine rn trivial ?_)
 refine Qp c1 rfl ?_
 rintro⟨t,e⟩ ⟨ht,hq⟩
 dsimp only at ht hq
 have hg:=fun h:t.l.length-1<t.l.length=>Qac t.l (t.l.length-1) h
 have F:=@hg
 refine rn F ?_
 repeat' (first
  | with_reducible exact⟨⟩
  | (refine sG F ?_ ?_<;>intro hZ)
  | (refine sB F ?_ ?_<;>intro hZ)
  | refine vp F (c2 _) ?_
  | (refine Qd (id:=2) [0,1,2,3,4,5,6,7,8,9,10,11,12,13,14,15,16,17,18,19,20] [] (by kernel_rfl) (by kernel_rfl) ?_; refine rn F ?_)
  | (refine Qd (id:=4) [0,1,2,3,4,5,6,7,8,9] [⟨[14],[],10,[0,2,3,4,5,6,7,8],[11,12,13]⟩,⟨[14],[14],15,[13],[]⟩,⟨[],[],16,[],[]⟩] (by kernel_rfl) (by kernel_rfl) ?_; refine rn F ?_))
 all_goals first
  | exact⟨rfl,rfl,(E0,false),rfl,e0⟩
  | skip
 obtain⟨v,_,rfl,_⟩:=hq (by first | omega | simp_all)
 have hpos:0<(Qbh k.tx tx).l.length:=by omega
 exact⟨rfl,rfl,((QbA k.lg (QnS k.tx tx)).1,_),rfl,fun h=>by
  have h0:(QbA k.lg (QnS k.tx tx)).2=0:=by simpa [QnS] using h
  exact⟨v,rfl,h0,(Qbh k.tx tx).l.length-1,by omega,h0,rfl,fun j h1 h2=>by omega⟩⟩
structure OfS(k:Kn)(t:Tx)(pg sl:Int) where
 i:Nat
 hi:i<=t.l.length
 no:∀ j,i<=j->j<t.l.length->(QbA k.lg (t.l.getD j 0)).2=0->¬ ((QbA k.lg (t.l.getD j 0)).1.c.pg=pg/\(QbA k.lg (t.l.getD j 0)).1.c.sl=sl)
def QGX (k:Kn) (h:k.sm) (t:Tx) (ht:t.l.length<=100000) (pg sl:Int):VCalls prog 211 [.agg k.d,.agg t.d,.agg [.int .i64 pg,.int .i64 sl],.int .i64 t.l.length] [] (QL ebD fun a=>a.2 = true->Qjc k t a.1/\a.1.c.pg = pg):=by
 refine dk Tryz.func211 ?_
 obtain⟨h1,h2,h3,h4,h5,h6⟩:=h
 have c2:=QiL k.lg (by omega)
 (unfold Tryz.f211; refine rn trivial ?_)
 refine Qj (fun s:OfS k t pg sl=>⟨50,0,[(10,.int .i64 ((s.i:Int)-1)),(8,.ptr 3 0),(6,.ptr 2 0),(5,.ptr 1 0),(4,.ptr 0 0)],[⟨39,true,k.d⟩,⟨197,true,t.d⟩,⟨81,true,[.int .i64 pg,.int .i64 sl]⟩,⟨52,true,E0.d⟩]⟩) (fun s=>s.i) ⟨t.l.length,JB _,fun j h1 h2=>by omega⟩ (gc [0,1,2,3]) ?_
 rintro⟨i,hi,no⟩
 dsimp only
 have hg:=fun h:i-1<t.l.length=>Qac t.l (i-1) h
 have c3:=c2 (t.l.getD (i-1) 0)
 have hL:=fun(a1:i-1<t.l.length) (a2:(QbA k.lg (t.l.getD (i-1) 0)).2=0) (a3:(QbA k.lg (t.l.getD (i-1) 0)).1.c.pg=pg) (a4:(QbA k.lg (t.l.getD (i-1) 0)).1.c.sl=sl)=>(⟨i-1,a1,a2,rfl,fun j h1 h2 h3=>by rw[a3,a4]; exact no j (by omega) h2 h3⟩:Qjc k t (QbA k.lg (t.l.getD (i-1) 0)).1)
 have hN:=fun(a:(QbA k.lg (t.l.getD (i-1) 0)).2=0->¬ ((QbA k.lg (t.l.getD (i-1) 0)).1.c.pg=pg/\(QbA k.lg (t.l.getD (i-1) 0)).1.c.sl=sl))=>(fun j h1 h2 h3=>by
  rcases J4 j i with h4 | h4
  ·obtain rfl:j = i - 1:=by omega
   exact a h3
  ·exact no j h4 h2 h3:∀ j,i-1<=j->j<t.l.length->(QbA k.lg (t.l.getD j 0)).2=0->¬ ((QbA k.lg (t.l.getD j 0)).1.c.pg=pg/\(QbA k.lg (t.l.getD j 0)).1.c.sl=sl))
 generalize hgE:QbA k.lg (t.l.getD (i-1) 0)=g at *
 have F:=@hg
 refine rn F ?_
 repeat' (first
  | with_reducible exact⟨⟩
  | (refine sG F ?_ ?_<;>intro hZ)
  | (refine sB F ?_ ?_<;>intro hZ)
  | refine vp F (c3) ?_
  | (refine Qd (id:=4) [0,1,2,3,4,5,6] [⟨[11],[],7,[0,2,3,4,5],[8,9,10]⟩,⟨[11],[11],12,[10],[]⟩,⟨[],[],13,[],[]⟩] (by kernel_rfl) (by kernel_rfl) ?_; refine rn F ?_))
 all_goals first
  | exact⟨rfl,rfl,(E0,false),rfl,fun h=>by cases h⟩
  | exact⟨rfl,rfl,(g.1,true),rfl,fun _=>⟨hL (by omega) (by omega) (by omega) (by omega),by dsimp only; omega⟩⟩
  | (refine ⟨⟨i - 1,by omega,hN (by omega)⟩,by dsimp only; omega,?_⟩
     dsimp only
     rw[show((i-1:Nat):Int)-1=(i:Int)-1-1 by omega]
     exact(gc [0,1,2,3]))
  | skip
def Qlr (k:Kn) (h:k.sm) (tx pg sl:Int):VCalls prog 164 [.agg k.d,.int .i64 tx,.agg [.int .i64 pg,.int .i64 sl]] [] (QL ebD fun a=>a.2 = true->Qjc k (Qbh k.tx tx) a.1/\a.1.c.pg = pg):=by
 refine dk Tryz.func164 ?_
 have c1:=QdM k h tx
 (unfold Tryz.f164; refine rn trivial ?_)
 refine Qp c1 rfl ?_
 rintro⟨t,e⟩ ⟨ht,hq⟩
 have c2:=QGX k h t ht
 refine rn F ?_
 repeat' (first
  | with_reducible exact⟨⟩
  | (refine sG F ?_ ?_<;>intro hZ)
  | (refine sB F ?_ ?_<;>intro hZ)
  | (refine Qp (c2 _ _) rfl ?_; rintro⟨y,b⟩ hb; refine rn F ?_))
 all_goals first
  | exact⟨rfl,rfl,(E0,false),rfl,fun h=>by cases h⟩
  | (have he:=(hq (by first | omega | (dsimp only; omega) | simp_all)).2.2.1
     dsimp only at he
     rw[he] at hb
     exact⟨rfl,rfl,(y,b),rfl,hb⟩)
  | skip
def QEn(k:Kn)(pg:Int)(a:Kn×Rs):Prop:=a.1.sm/\(a.2.st=3->a.1=k/\a.2.pg=pg/\idF k.pl.fs pg<0)/\(a.2.st≠3->a.2.st≠5->a.2.st=1/\Str 0 k a.1/\k.lg.es.length<a.1.lg.es.length)/\(a.2.st=5->a.2.er≠0)
def QBx(k:Kn)(e:E):k.lg.es.length<(k.set e).lg.es.length:=by
 unfold Kn.set Kn.add; simp
def Qti (k:Kn) (h:k.sm) (hv:VK k) (t:Tx) (hid:0<=idT k.tx t.id) (hta:Qbh k.tx t.id = t) (hst:t.st ≠ 1) (e:E) (hla:Qjc k t e):VCalls prog 113 [.agg k.d,.agg t.d,.agg e.d] [] (QL krD (QEn k e.c.pg)):=by
 refine dk Tryz.func113 ?_
 have h':=h
 obtain⟨h1,h2,h3,h4,h5,h6⟩:=h
 have c1:=Qha k.pl (by omega) e.c.pg
 have hn:=Qvd (a:=e.c.pg) hv.2.2.2.1
 have c2:=QEL e.c
 generalize hgg:Qe4 k.pl e.c.pg=g at *
 have c3:=Qlp g.1 ⟨e.c.pg,e.c.sl,e.c.a,e.c.b⟩
 have c4:=Qz9 k h' ⟨0,2,t.id,0,0,e.lsn,⟨e.c.pg,e.c.sl,e.c.a,e.c.b⟩,[]⟩ (.inr rfl)
 have hf:∀ er,er≠0->QEn k e.c.pg (k,QaF er):=fun er hr=>⟨h',fun h=>by simp[QaF] at h,fun _ h=>absurd rfl h,fun _=>hr⟩
 (unfold Tryz.f113; refine rn trivial ?_)
 refine rn F ?_
 repeat' (first
  | with_reducible exact⟨⟩
  | (refine sB F ?_ ?_<;>intro hZ)
  | refine vp F (c1) ?_
  | refine vp F (c2) ?_
  | (refine Qp (c3) rfl ?_; rintro⟨p1,e1⟩ hp1; refine rn F ?_)
  | (refine Qp (c4) rfl ?_; rintro⟨k1,e2⟩ hq; refine rn F ?_)
  | refine vp F (Qak _) ?_
  | (refine Qp (Qlr k1 hq.1 _ _ _) rfl ?_; rintro⟨y,b⟩ -; refine rn F ?_)
  | (refine Qp (QtZ k1.lk (Jk hq.1.2.2.1 (by decide)) _ _ _) rfl ?_; rintro u hu; refine rn F ?_)
  | (refine Qd (id:=3) [0,1,2,3,4] [⟨[],[],5,[1,2,3,4],[]⟩,⟨[],[],6,[],[]⟩] (by kernel_rfl) (by kernel_rfl) ?_; refine rn F ?_)
  | (refine Qd (id:=7) [0,1] [⟨[],[],2,[0],[]⟩,⟨[],[],3,[1],[]⟩,⟨[],[],4,[],[]⟩] (by kernel_rfl) (by kernel_rfl) ?_; refine rn F ?_)
  | (refine Qd (id:=10) [0,1] [⟨[],[],2,[0],[]⟩,⟨[],[],3,[1],[]⟩,⟨[],[],4,[],[]⟩] (by kernel_rfl) (by kernel_rfl) ?_; refine rn F ?_)
  | (refine Qd (id:=16) [0,1,2,3] [⟨[],[],4,[1,2,3],[]⟩,⟨[],[],5,[],[]⟩] (by kernel_rfl) (by kernel_rfl) ?_; refine rn F ?_))
 all_goals first
  | exact⟨rfl,rfl,(k,⟨3,0,e.c.pg,Ce0,0⟩),rfl,h',fun _=>⟨rfl,rfl,hn (by first | assumption | simp_all)⟩,fun h=>absurd rfl h,fun h=>by simp at h⟩
  | exact⟨rfl,rfl,(k,QaF _),rfl,hf _ (by assumption)⟩
  | skip
 all_goals
  obtain⟨e',q1,q2,q3⟩:=hq.2.1 (by dsimp only; omega)
  dsimp only at q3
  have qs:Str 0 k k1:=by
   rw[q3]
   exact .one (.undo q1 rfl ⟨hid,fun h=>by simp at h,fun _=>⟨by dsimp only; rw[hta]; exact hst,e,by dsimp only; rw[hta]; exact hla,rfl,rfl⟩,by dsimp only; rw[hgg]; first | assumption | simp_all,by dsimp only; rw[hgg]; exact(hp1 (by dsimp only; omega)).2⟩ q2)
  have ql:k.lg.es.length<k1.lg.es.length:=by rw[q3]; exact QBx k e'
 all_goals first
  | exact⟨rfl,rfl,(k1,⟨1,t.id,0,Ce0,0⟩),rfl,hq.1,fun h=>by simp at h,fun _ _=>⟨rfl,qs,ql⟩,fun h=>by simp at h⟩
  | (obtain ⟨r1,r2,r3,r4,r5,r6⟩:=hq.1
     exact⟨rfl,rfl,(⟨k1.pg,k1.nx,k1.lg,k1.pl,u,k1.tx,k1.ix,k1.la⟩,⟨1,t.id,0,Ce0,0⟩),rfl,⟨r1,r2,Jk hu r3,r4,r5,r6⟩,fun h=>by simp at h,fun _ _=>⟨rfl,qs.step (.lock u),ql⟩,fun h=>by simp at h⟩)
  | skip
end
section
attribute [local go_sem] Qbm
def QEu(k:Kn)(tx:Int)(a:Kn×Rs):Prop:=a.1.sm/\(a.2.st=3->VK k/\a.1=k/\a.2.pg=(QjZ k.tx k.lg tx).c.pg/\(QbA k.lg (QnS k.tx tx)).2=0/\idF k.pl.fs a.2.pg<0)/\(a.2.st≠3->a.2.st≠5->Str 0 k a.1/\k.lg.es.length<a.1.lg.es.length)/\(a.2.st=5->a.2.er≠0)
def Qtp (k:Kn) (h:k.sm) (tx:Int):VCalls prog 74 [.agg k.d,.int .i64 tx] [] (QL krD (QEu k tx)):=by
 refine dk Tryz.func74 ?_
 have c1:=QdM k h tx
 have c2:=Qel k h ⟨0,5,tx,0,0,0,Ch0,[]⟩
 have c3:=QBU k h tx
 have hf:∀ er,er≠0->QEu k tx (k,QaF er):=fun er hr=>⟨h,fun h=>by simp[QaF] at h,fun _ h=>absurd rfl h,fun _=>hr⟩
 (unfold Tryz.f74; refine rn trivial ?_)
 refine Qp c1 rfl ?_
 rintro⟨t,e⟩ ⟨ht,hq0⟩
 by_cases he:e=0
 rotate_left
 ·skip
  have F:=@he
  refine rn F ?_
  repeat' (first
   | with_reducible exact⟨⟩
   | refine vp F (Qak _) ?_
   | (refine Qd (id:=3) [0,1] [⟨[],[],2,[0],[]⟩,⟨[],[],3,[1],[]⟩,⟨[],[],4,[],[]⟩] (by kernel_rfl) (by kernel_rfl) ?_; refine rn F ?_))
  exact⟨rfl,rfl,(k,QaF e),rfl,hf _ he⟩
 obtain⟨hv,hi,rfl,hst⟩:=hq0 he
 subst he
 have hid:=QsP hi
 have hta:Qbh k.tx (Qbh k.tx tx).id=Qbh k.tx tx:=by rw[hid]
 have hid0:0<=idT k.tx (Qbh k.tx tx).id:=by rw[hid]; exact hi
 have hfin:(Qbh k.tx tx).st=3->(Qbh k.tx tx).l.length=0->QGc k ⟨0,5,tx,0,0,0,Ch0,[]⟩:=fun a b=>⟨hi,fun h=>by simp at h,fun _=>⟨a,JN b⟩⟩
 dsimp only at hst ht
 unfold QCn at c3
 generalize htt:Qbh k.tx tx=t at *
 have F:=trivial
 refine rn F ?_
 repeat' (first
  | with_reducible exact⟨⟩
  | (refine sG F ?_ ?_<;>intro hZ)
  | (refine sB F ?_ ?_<;>intro hZ)
  | (refine Qp (c2) rfl ?_; rintro⟨k1,n1,e1⟩ hq; refine rn F ?_)
  | refine vp F (Qak _) ?_
  | (refine Qp (QdN k1.lk (Jk hq.1.2.2.1 (by decide)) tx) rfl ?_; rintro u hu; refine rn F ?_)
  | (refine Qp (c3) rfl ?_; rintro⟨y,ok⟩ hy; refine rn F ?_)
  | (refine Qp (Qti k h hv t hid0 hta hst y (hy (by first | assumption | simp_all)).2.2.2) rfl ?_; rintro⟨k2,r2⟩ hq2; refine rn F ?_)
  | (refine Qd (id:=7) [0,1] [⟨[],[],2,[0],[]⟩,⟨[],[],3,[1],[]⟩,⟨[],[],4,[],[]⟩] (by kernel_rfl) (by kernel_rfl) ?_; refine rn F ?_)
  | (refine Qd (id:=12) [0] [⟨[],[],1,[0],[]⟩,⟨[],[],2,[],[]⟩,⟨[],[],3,[],[]⟩] (by kernel_rfl) (by kernel_rfl) ?_; refine rn F ?_))
 all_goals first
  | exact⟨rfl,rfl,(k,QaF _),rfl,hf _ (by first | assumption | decide)⟩
  | (obtain ⟨q1,q2,q3,q4,q5,q6,q7⟩:=Qwx hq (by omega)
     have qs:=QgI hq (by omega) (.inr (.inr rfl)) (hfin (by omega) (by omega))
     obtain⟨r1,r2,r3,r4,r5,r6⟩:=hq.1
     exact⟨rfl,rfl,(⟨k1.pg,k1.nx,k1.lg,k1.pl,u,k1.tx,k1.ix,k1.la⟩,⟨1,0,0,Ce0,0⟩),rfl,⟨r1,r2,Jk hu r3,r4,r5,r6⟩,fun h=>by simp at h,fun _ _=>⟨qs.step (.lock u),by dsimp only; omega⟩,fun h=>by simp at h⟩)
  | (obtain ⟨y1,y2,y3,_⟩:=hy (by first | assumption | simp_all)
     dsimp only at y2
     exact⟨rfl,rfl,(k2,r2),rfl,hq2.1,fun h=>⟨hv,(hq2.2.1 h).1,by rw[<- y2]; exact(hq2.2.1 h).2.1,y3,by rw[(hq2.2.1 h).2.1]; exact(hq2.2.1 h).2.2⟩,fun a b=>(hq2.2.2.1 a b).2,hq2.2.2.2⟩)
  | skip
def QFT(k:Kn)(pg:Int)(a:Kn×Rs):Prop:=a.1.sm/\(a.2.st=3->a.1=k/\a.2.pg=pg/\idF k.pl.fs pg<0)/\(a.2.st≠3->a.2.st≠5->a.2.tx≠0->Str 0 k a.1/\k.lg.es.length<a.1.lg.es.length)/\(a.2.st=5->a.2.er≠0)
def QB3 (k:Kn) (h:k.sm) (tx pg sl:Int):VCalls prog 123 [.agg k.d,.int .i64 tx,.agg [.int .i64 pg,.int .i64 sl]] [] (QL krD (QFT k pg)):=by
 refine dk Tryz.func123 ?_
 have c1:=QdM k h tx
 have c3:=Qlr k h tx pg sl
 have hf:∀ er,er≠0->QFT k pg (k,QaF er):=fun er hr=>⟨h,fun h=>by simp[QaF] at h,fun _ h=>absurd rfl h,fun _=>hr⟩
 (unfold Tryz.f123; refine rn trivial ?_)
 refine Qp c1 rfl ?_
 rintro⟨t,e⟩ ⟨ht,hq0⟩
 by_cases he:e=0
 rotate_left
 ·skip
  have F:=@he
  refine rn F ?_
  repeat' (first
   | with_reducible exact⟨⟩
   | refine vp F (Qak _) ?_
   | (refine Qd (id:=3) [0,1] [⟨[],[],2,[0],[]⟩,⟨[],[],3,[1],[]⟩,⟨[],[],4,[],[]⟩] (by kernel_rfl) (by kernel_rfl) ?_; refine rn F ?_))
  exact⟨rfl,rfl,(k,QaF e),rfl,hf _ he⟩
 obtain⟨hv,hi,rfl,hst⟩:=hq0 he
 subst he
 have hid:=QsP hi
 have hta:Qbh k.tx (Qbh k.tx tx).id=Qbh k.tx tx:=by rw[hid]
 have hid0:0<=idT k.tx (Qbh k.tx tx).id:=by rw[hid]; exact hi
 dsimp only at hst ht
 generalize htt:Qbh k.tx tx=t at *
 have F:=trivial
 refine rn F ?_
 repeat' (first
  | with_reducible exact⟨⟩
  | (refine sB F ?_ ?_<;>intro hZ)
  | refine vp F (Qak _) ?_
  | (refine Qp (c3) rfl ?_; rintro⟨y,ok⟩ hy; refine rn F ?_)
  | (refine Qp (Qti k h hv t hid0 hta hst y (hy (by first | assumption | simp_all)).1) rfl ?_; rintro⟨k2,r2⟩ hq2; refine rn F ?_)
  | (refine Qd (id:=5) [0] [⟨[],[],1,[0],[]⟩,⟨[],[],2,[],[]⟩,⟨[],[],3,[],[]⟩] (by kernel_rfl) (by kernel_rfl) ?_; refine rn F ?_))
 all_goals first
  | exact⟨rfl,rfl,(k,QaF _),rfl,hf _ (by first | assumption | decide)⟩
  | exact⟨rfl,rfl,(k,⟨1,0,0,Ce0,0⟩),rfl,h,fun h=>by simp at h,fun _ _ h=>absurd rfl h,fun h=>by simp at h⟩
  | (have y2:=(hy (by first | assumption | simp_all)).2
     dsimp only at y2
     rw[y2] at hq2
     exact⟨rfl,rfl,(k2,r2),rfl,hq2.1,hq2.2.1,fun h1 h2 _=>(hq2.2.2.1 h1 h2).2,hq2.2.2.2⟩)
  | skip
end
section
attribute [local go_sem] Qbm
def Ev.get(h:Ev x y)(h0:(QbA x n).2=0):QbA y n=QbA x n:=by
 obtain⟨hv,h1,h2,_,_⟩:=Qn3 h0
 have hf:=h.f
 obtain⟨t,ht⟩:=h.pre
 have hv2:=h.ok hv
 have hl:y.es.length=x.es.length+t.length:=by rw[<- ht,Ja]
 have hd:=QaG hv
 simp only[Lg.hd] at hd
 unfold QbA
 rw[if_neg (by rw[hv2]; decide),if_neg (by simp only[Lg.end_] at *; omega),if_neg (by rw[hv]; decide),if_neg (by omega)]
 rw[hf,<- ht]
 congr 1
 simp only[Lg.end_] at h2
 rw[Jj,Jj,JU (by omega)]
def QoH(s:Sv)(hs:s.sm)(tx:Int):VCalls prog 119 [.agg s.d,.int .i64 tx] [] (QL boD fun _=>True):=by
 refine dd Tryz.func119 ?_
 have h4:=hs.1.2.2.2.1
 have c2:=Qcj s.k.tx (Jk h4.1 (by decide)) tx
 rcases QI s.k.tx tx with hn | ⟨i,hil,hid,_⟩
 ·rw [hn] at c2
  (unfold Tryz.f119; refine rn trivial ?_)
  refine rn F ?_
  repeat' (first
   | with_reducible exact⟨⟩
   | refine vp F (c2) ?_)
  all_goals exact⟨rfl,rfl,_,rfl,trivial⟩
 rw[hid] at c2
 have hg:=Qeq s.k.tx i hil
 (unfold Tryz.f119; refine rn trivial ?_)
 have F:=@hg
 refine rn F ?_
 repeat' (first
  | with_reducible exact⟨⟩
  | refine vp F (c2) ?_)
 all_goals exact⟨rfl,rfl,_,rfl,trivial⟩
def inP(l:List Fm)(a:Int):Nat:=if 0<=idF l a then 0 else 1
def QAo(l:List Fm)(a:Int):inP l a<=1:=by unfold inP; split<;>omega
def rbM(tx:Int)(s:Sv):Nat:=2*(4096-s.k.lg.es.length)+inP s.k.pl.fs (QjZ s.k.tx s.k.lg tx).c.pg
def Qyg(h:s.k.lg.es.length<t.k.lg.es.length)(hl:t.k.lg.es.length<=4096):rbM tx t<rbM tx s:=by
 have:=QAo t.k.pl.fs (QjZ t.k.tx t.k.lg tx).c.pg
 unfold rbM; omega
def QoU(ev:Ev s.k.lg t.k.lg)(hx:t.k.tx=s.k.tx)(h0:(QbA s.k.lg (QnS s.k.tx tx)).2=0)(h1:idF s.k.pl.fs (QjZ s.k.tx s.k.lg tx).c.pg<0)(h2:0<=idF t.k.pl.fs (QjZ s.k.tx s.k.lg tx).c.pg):rbM tx t<rbM tx s:=by
 have hl:=ev.len
 have e:QjZ t.k.tx t.k.lg tx=QjZ s.k.tx s.k.lg tx:=by unfold QjZ; rw[hx,ev.get h0]
 unfold rbM
 rw[e]
 unfold inP
 rw[if_pos h2,if_neg (by omega)]
 omega
def evQ(s:Sv)(a:Sv×Int):Prop:=a.1.sm/\(a.2=0->Str 0 s.k a.1.k)
structure Re(s0:Sv) where
 s:Sv
 sm:s.sm
 ev:Str 0 s0.k s.k
def Qnv(s:Sv)(hs:s.sm)(tx:Int):VCalls prog 120 [.agg s.d,.int .i64 tx] [] (QL svD (evQ s)):=by
 refine dk Tryz.func120 ?_
 have c1:=Qa2 s.k hs.1
 have c2:=Qcj s.k.tx (Jk hs.1.2.2.2.1.1 (by decide)) tx
 have e0:∀ e,e≠0->evQ s (Sv0,e):=fun e h=>⟨QdC,fun h2=>absurd h2 h⟩
 (unfold Tryz.f120; refine rn trivial ?_)
 refine rn F ?_
 repeat' (first
  | with_reducible exact⟨⟩
  | (refine sB F ?_ ?_<;>intro hZ)
  | (refine Qp (c1) rfl ?_; rintro b -; refine rn F ?_)
  | refine vp F (c2) ?_)
 all_goals first
  | exact⟨rfl,rfl,(Sv0,15),rfl,e0 _ (by decide)⟩
  | exact⟨rfl,rfl,(Sv0,16),rfl,e0 _ (by decide)⟩
  | skip
 refine Qj (fun r:Re s=>⟨56,0,[(4,.ptr 1 0),(2,.ptr 0 0),(1,.int .i64 tx)],[⟨68,true,r.s.d⟩,⟨68,true,Zv⟩]⟩) (fun r=>rbM tx r.s) ⟨s,hs,Str.refl _⟩ (gc [0,1]) ?_
 rintro⟨s1,sm,ev⟩
 dsimp only
 unfold Zv
 have d1:=QoH s1 sm tx
 have d2:=Qtp s1.k sm.1 tx
 have d3:=fun n=>QeN s1 sm n
 refine rn F ?_
 repeat' (first
  | with_reducible exact⟨⟩
  | (refine sB F ?_ ?_<;>intro hZ)
  | (refine Qp (d1) rfl ?_; rintro b2 -; refine rn F ?_)
  | (refine Qp (d2) rfl ?_; rintro⟨k1,r1⟩ hq; refine rn F ?_)
  | (refine Qp (d3 _) rfl ?_; rintro⟨s2,e2⟩ hq2; refine rn F ?_)
  | (refine Qd (id:=10) [0,1,2] [⟨[],[],3,[1,2],[]⟩,⟨[],[],4,[],[]⟩] (by kernel_rfl) (by kernel_rfl) ?_; refine rn F ?_))
 all_goals first
  | exact⟨rfl,rfl,(s1,0),rfl,sm,fun _=>ev⟩
  | exact⟨rfl,rfl,(Sv0,e2),rfl,e0 _ (by assumption)⟩
  | exact⟨rfl,rfl,(Sv0,r1.er),rfl,e0 _ (hq.2.2.2 (by assumption))⟩
  | skip
 ·obtain ⟨v,_,g1,g2,g3⟩:=hq.2.1 (by first | assumption | omega)
  have q2:=hq2.2 (by dsimp only; omega)
  dsimp only at g1 g3 q2
  rw[g1] at g3 q2
  exact⟨⟨s2,hq2.1,ev.trans q2.1⟩,QoU q2.1.ev q2.2.1 g2 g3 q2.2.2,(gc [0,1])⟩
 ·have q:=hq.2.2.1 (by dsimp only; omega) (by dsimp only; omega)
  exact⟨⟨⟨k1,s1.v⟩,⟨hq.1,sm.2⟩,ev.trans q.1⟩,Qyg q.2 hq.1.1,(gc [0,1])⟩
end
section
attribute [local go_sem] Qbm
@[go_sem] def srD(a:Sv×Rs):DV:=.tup [.agg a.1.d,.agg a.2.d]
def QGT(s:Sv)(a:Sv×Rs):Prop:=a.1.sm/\(a.2.st=2->Str 0 s.k a.1.k)/\(a.2.st≠5->Str 1 s.k a.1.k)
def Qg5(s t:Sv)(h:t.sm)(e:Int):QGT s (t,QaF e):=⟨h,fun h=>by simp[QaF] at h,fun h=>absurd rfl h⟩
def Zr:List DV:=[.int .i64 0,.int .i64 0,.int .i64 0,.bool false,.pv (.str []),.int .i64 0]
def QEF (s:Sv) (hs:s.sm) (tx:Int) (a:Ac):VCalls prog 84 [.agg s.d,.int .i64 tx,.agg a.d] [] (QL srD (QGT s)):=by
 refine dk Tryz.func84 ?_
 (unfold Tryz.f84; refine rn trivial ?_)
 refine Qj (fun r:Re s=>⟨79,0,[(7,.ptr 3 0),(6,.ptr 2 0),(5,.ptr 1 0),(3,.ptr 0 0),(1,.int .i64 tx)],[⟨68,true,r.s.d⟩,⟨110,true,a.d⟩,⟨68,true,Zv⟩,⟨107,true,Zr⟩]⟩) (fun r=>inP r.s.k.pl.fs a.pg) ⟨s,hs,Str.refl _⟩ (gc [0,1,2,3]) ?_
 rintro⟨s1,sm,ev⟩
 dsimp only
 unfold Zv Zr
 have d1:=QEK s1.k sm.1 tx a
 have d2:=fun(k:Kn) (hk:k.sm)=>QeN ⟨k,s1.v⟩ ⟨hk,sm.2⟩
 have d3:=fun(k:Kn) (hk:k.sm)=>QoH ⟨k,s1.v⟩ ⟨hk,sm.2⟩ tx
 have d4:=fun(k:Kn) (hk:k.sm)=>Qnv ⟨k,s1.v⟩ ⟨hk,sm.2⟩ tx
 refine rn F ?_
 repeat' (first
  | with_reducible exact⟨⟩
  | (refine sG F ?_ ?_<;>intro hZ)
  | (refine sB F ?_ ?_<;>intro hZ)
  | (refine Qp (d1) rfl ?_; rintro⟨k1,r1⟩ hq; refine rn F ?_)
  | (refine Qp (d2 k1 hq.1 _) rfl ?_; rintro⟨s2,e2⟩ hq2; refine rn F ?_)
  | refine vp F (Qak _) ?_
  | (refine Qp (d3 k1 hq.1) rfl ?_; rintro b -; refine rn F ?_)
  | (refine Qp (d4 k1 hq.1) rfl ?_; rintro⟨s3,e3⟩ hq3; refine rn F ?_)
  | (refine Qd (id:=6) [0,1] [⟨[],[],2,[0],[]⟩,⟨[],[],3,[1],[]⟩,⟨[],[],4,[],[]⟩] (by kernel_rfl) (by kernel_rfl) ?_; refine rn F ?_)
  | (refine Qd (id:=12) [0,1] [⟨[],[],2,[0],[]⟩,⟨[],[],3,[1],[]⟩,⟨[],[],4,[],[]⟩] (by kernel_rfl) (by kernel_rfl) ?_; refine rn F ?_)
  | (refine Qd (id:=14) [0,1] [⟨[],[],2,[1],[]⟩,⟨[],[],3,[],[]⟩] (by kernel_rfl) (by kernel_rfl) ?_; refine rn F ?_))
 all_goals first
  | exact⟨rfl,rfl,(⟨k1,s1.v⟩,QaF e2),rfl,Qg5 s ⟨k1,s1.v⟩ ⟨hq.1,sm.2⟩ e2⟩
  | exact⟨rfl,rfl,(⟨k1,s1.v⟩,QaF e3),rfl,Qg5 s ⟨k1,s1.v⟩ ⟨hq.1,sm.2⟩ e3⟩
  | exact⟨rfl,rfl,(⟨k1,s1.v⟩,r1),rfl,⟨hq.1,sm.2⟩,fun h=>ev.trans (hq.2.2.1 h),fun h=>by
   by_cases h2:r1.st=2
   ·exact(ev.trans (hq.2.2.1 h2)).mono (by omega)
   ·exact ev.tr0 (hq.2.2.2 (by dsimp only at *; omega) h2 h)⟩
  | (have q3:=hq3.2 (by dsimp only; omega)
     exact⟨rfl,rfl,(s3,r1),rfl,hq3.1,fun h=>by dsimp only at h; omega,fun h=>ev.tr0 ((hq.2.2.2 (by dsimp only at *; omega) (by dsimp only at *; omega) h).tr q3)⟩)
  | skip
 obtain⟨g1,g2,g3,g4⟩:=hq.2.1 (by first | assumption | (dsimp only; omega))
 have q2:=hq2.2 (by dsimp only; omega)
 dsimp only at g1 g2 g3 g4 q2
 rw[g2] at q2
 refine⟨⟨s2,hq2.1,(ev.trans g4).trans q2.1⟩,?_,(gc [0,1,2,3])⟩
 unfold inP
 dsimp only
 rw[if_pos q2.2.2,if_neg (by omega)]
 omega
@[go_sem] def QHH(a:Sv×Int×Int):DV:=.tup [.agg a.1.d,.int .i64 a.2.1,.int .i64 a.2.2]
def Qtu(s:Sv)(hs:s.sm):VCalls prog 40 [.agg s.d] [] (QL QHH fun a=>a.1.sm/\(a.2.2=0->Str 1 s.k a.1.k)):=by
 refine dk Tryz.func40 ?_
 have c1:=QtL s.k hs.1
 (unfold Tryz.f40; refine rn trivial ?_)
 refine rn F ?_
 repeat' (first
  | with_reducible exact⟨⟩
  | (refine sB F ?_ ?_<;>intro hZ)
  | (refine Qp (c1) rfl ?_; rintro⟨k1,n1,e1⟩ hq; refine rn F ?_))
 all_goals first
  | exact⟨rfl,rfl,(Sv0,0,e1),rfl,QdC,fun h=>absurd h (by assumption)⟩
  | exact⟨rfl,rfl,(⟨k1,s.v⟩,n1,0),rfl,⟨hq.1,hs.2⟩,fun _=>by obtain⟨q1,q2,q3⟩:=hq.2 (by dsimp only; omega); dsimp only at q3; subst q3; exact .one (.begin q1 q2)⟩
  | skip
def mkR:∀ n:Nat,V.mk [.pv (.lit (.int .i64 0)),.pv (.lit (.int .i64 0)),.pv (.lit (.int .i64 0))] n = cells Qcr (Jo n Rw0)
 | 0=>rfl
 | n + 1=>by
   show _++V.mk _ n=_
   rw[mkR n,List.replicate_succ]; rfl
def QoM(n:Int):VCalls prog 37 [.int .i64 n] [] (QL (fun a:List Rw×Int=>.tup [.agg [.pv (.sl (fz Qcr a.1))],.int .i64 a.2]) fun a=>a.1.length<=64/\(a.2=0->a.1=Jo n.toNat Rw0)/\(1<=n->n<=64->a.2=0)):=by
 refine dk Tryz.func37 ?_
 (unfold Tryz.f37; refine rn trivial ?_)
 refine rn F ?_
 repeat' (first
  | with_reducible exact⟨⟩
  | (refine sG F ?_ ?_<;>intro hZ)
  | (refine sB F ?_ ?_<;>intro hZ))
 all_goals first
  | exact⟨rfl,rfl,([],1),rfl,Jc _,fun h=>by simp at h,fun _ _=>by omega⟩
  | skip
 obtain⟨m,rfl⟩:∃ m:Nat,n=m:=⟨n.toNat,by omega⟩
 have hc:((0:Int)<=(m:Int)/\(m:Int)<=(m:Int)/\((24:Nat):Int)*(m:Int)<=281474976710656/\(m:Int)<=9223372036854775807)=True:=eq_true ⟨by omega,by omega,by omega,by omega⟩
 have hmk:=mkR m
 have hlr:(Jo m Rw0).length=m:=Jx
 refine rn (Jb @hc (Jb @hmk @hlr)) ?_
 exact⟨rfl,rfl,(Jo m Rw0,0),rfl,by dsimp only; rw[hlr]; omega,fun _=>rfl,fun _ _=>rfl⟩
end
section
attribute [local go_sem] Qbm
def Lg1:Lg:=⟨1,[],0⟩
def QGa:lgB Lg1=true:=by decide
def QBV:VCalls prog 38 [] [] (Ret (.agg Lg1.c)):=by
 refine dk Tryz.func38 ?_
 (unfold Tryz.f38; refine rn trivial ?_)
 rfl
def Qyq(n:Int):(Qic n).1.fs=[]:=by unfold Qic; split<;>rfl
def Qtq(s:Sv)(hs:s.sm)(n:Int):VCalls prog 43 [.agg s.d,.int .i64 n] [] (QL svD (evQ s)):=by
 refine dk Tryz.func43 ?_
 have c1:=Qx7 s.k hs.1 n
 have c2:=QcR s.k.pl (Jk hs.1.2.1 (by decide)) n
 have c3:=fun k hk x=>QoF s hs.2 k hk x
 have e0:∀ e,e≠0->evQ s (Sv0,e):=fun e h=>⟨QdC,fun h2=>absurd h2 h⟩
 (unfold Tryz.f43; refine rn trivial ?_)
 refine Qp c1 rfl ?_
 rintro⟨k1,x,e⟩ hq
 by_cases he:e=0
 rotate_left
 ·skip
  have F:=@he
  refine rn F ?_
  exact⟨rfl,rfl,(Sv0,e),rfl,e0 _ he⟩
 obtain⟨q1,q2,q3,q4,q5⟩:=hq.2 he
 dsimp only at q1 q2 q3 q4 q5
 subst he
 rcases Qb6 s.k.pl n with hn | ⟨hpl,i,hi,hfi,hif,hpg⟩
 ·omega
 have hx:(k1.pl.fs.getD i Fm0).pg=x:=by
  rw[q3,q4]; unfold Qe4; rw[hfi,if_neg (by omega),Jm]
 have hxi:idF k1.pl.fs x.id=i:=by rw[<- hx,q4,hpg]; exact hif
 have hw:=fun(s2:Sv) (e2:Int) (hq2:QrU k1 x (s2,e2)) (h:e2=0)=>(Qit hq2 h (by rw[q4]; exact hpl) (by rw[q4]; exact hi) hxi hx).1
 dsimp only at hw
 rw[hfi] at c2
 have hg:=Qcg s.k.pl.fs i hi
 generalize s.k.pl.fs.getD i Fm0=f at *
 have F:=@hg
 refine rn F ?_
 repeat' (first
  | with_reducible exact⟨⟩
  | (refine sB F ?_ ?_<;>intro hZ)
  | refine vp F (c2) ?_
  | (refine Qp (c3 k1 hq.1 x) rfl ?_; rintro⟨s2,e2⟩ hq2; refine rn F ?_)
  | (refine Qd (id:=4) [0,1,2,3,4,5,6,7] [⟨[],[],8,[0,1,2,3,4,5],[9,10,11,12]⟩] (by kernel_rfl) (by kernel_rfl) ?_; refine rn F ?_))
 all_goals first
  | exact⟨rfl,rfl,(s,0),rfl,hs,fun _=>Str.refl _⟩
  | exact⟨rfl,rfl,(s2,e2),rfl,hq2.1,fun h=>q1.trans (hw s2 e2 hq2 h)⟩
  | skip
end
section
attribute [local go_sem] Qbm
@[go_sem] def tbD(a:Tx×Bool):DV:=.tup [.agg a.1.d,.bool a.2]
def Qlt(k:Kn)(h:k.sm)(tx:Int):VCalls prog 109 [.agg k.d,.int .i64 tx] [] (QL tbD fun _=>True):=by
 refine dk Tryz.func109 ?_
 have c1:=Qa2 k h
 have c2:=Qcj k.tx (Jk h.2.2.2.1.1 (by decide)) tx
 rcases QI k.tx tx with hn | ⟨i,hil,hid,_⟩
 ·rw [hn] at c2
  (unfold Tryz.f109; refine rn trivial ?_)
  refine rn F ?_
  repeat' (first
   | with_reducible exact⟨⟩
   | (refine sB F ?_ ?_<;>intro hZ)
   | (refine Qp (c1) rfl ?_; rintro b -; refine rn F ?_)
   | refine vp F (c2) ?_)
  all_goals exact⟨rfl,rfl,(Tx0,false),rfl,trivial⟩
 rw[hid] at c2
 have hg:=Qeq k.tx i hil
 (unfold Tryz.f109; refine rn trivial ?_)
 have F:=@hg
 refine rn F ?_
 repeat' (first
  | with_reducible exact⟨⟩
  | (refine sB F ?_ ?_<;>intro hZ)
  | (refine Qp (c1) rfl ?_; rintro b hb; refine rn F ?_)
  | refine vp F (c2) ?_)
 all_goals first
  | exact⟨rfl,rfl,(k.tx.getD i Tx0,true),rfl,trivial⟩
  | exact⟨rfl,rfl,(Tx0,false),rfl,trivial⟩
  | skip
@[go_sem] def QIC(a:Int×Int×Int×Bool):DV:=.tup [.int .i64 a.1,.agg [.int .i64 a.2.1,.int .i64 a.2.2.1],.bool a.2.2.2]
def Qqy(k:Kn)(h:k.sm)(tx:Int):VCalls prog 85 [.agg k.d,.int .i64 tx] [] (QL QIC fun _=>True):=by
 refine dk Tryz.func85 ?_
 have h3:=h.2.2.1
 have c1:=QdL k.lk (by omega) tx
 have c2:=QoO k.lk (by omega) tx
 have c3:=fun n=>Qlt k h n
 (unfold Tryz.f85; refine rn trivial ?_)
 refine rn F ?_
 repeat' (first
  | with_reducible exact⟨⟩
  | (refine sB F ?_ ?_<;>intro hZ)
  | (refine Qp (c1) rfl ?_; rintro⟨g,b⟩ -; refine rn F ?_)
  | (refine Qp (c2) rfl ?_; rintro l hl; refine rn F ?_))
 all_goals first
  | exact⟨rfl,rfl,(0,0,0,false),rfl,trivial⟩
  | skip
 refine Qj (fun s:To l.length=>⟨44,0,[(28,.int .i64 s.i),(27,.int .i64 l.length),(26,.pv (.sl (fz Qad l))),(7,.ptr 2 0),(5,.ptr 1 0),(2,.ptr 0 0)],[⟨39,true,k.d⟩,⟨81,true,[.int .i64 0,.int .i64 0]⟩,⟨201,true,g.d⟩]⟩) (fun s=>l.length-s.i) ⟨0,Jc _⟩ (gc [0,1,2]) ?_
 rintro⟨i,hi⟩
 dsimp only
 have hx:=fun h:i<l.length=>Qac l i h
 have F:=@hx
 refine rn F ?_
 repeat' (first
  | with_reducible exact⟨⟩
  | (refine sB F ?_ ?_<;>intro hZ)
  | (refine Qp (c3 _) rfl ?_; rintro⟨t,b3⟩ -; refine rn F ?_)
  | (refine Qd (id:=9) [0,1,2] [⟨[],[],3,[1,2],[]⟩,⟨[],[],4,[],[]⟩,⟨[],[],5,[],[]⟩] (by kernel_rfl) (by kernel_rfl) ?_; refine rn F ?_))
 all_goals first
  | exact⟨rfl,rfl,(_,g.pg,g.sl,true),rfl,trivial⟩
  | exact⟨rfl,rfl,(0,0,0,false),rfl,trivial⟩
  | exact⟨⟨i+1,by omega⟩,by dsimp only; omega,(gc [0,1,2])⟩
  | skip
def QxW(k:Kn)(h:k.sm):VCalls prog 73 [.agg k.d] [] (QL ilD fun l=>l.length<=65):=by
 refine dk Tryz.func73 ?_
 have h4:=h.2.2.2.1.1
 have c3:=fun n=>Qlt k h n
 (unfold Tryz.f73; refine rn trivial ?_)
 refine VLoop.nilOwn 3 3 1 rfl ?_
 refine rn trivial ?_
 refine Qj (fun s:{s:Nat×List Int // s.1<=k.tx.length/\s.2.length<=s.1}=>⟨36,0,[(4,.int .i64 s.1.1),(3,.own 1 1 0 s.1.2.length),(1,.ptr 0 0)],[⟨39,true,k.d⟩,⟨3,true,cells Qad s.1.2⟩]⟩) (fun s=>k.tx.length-s.1.1) ⟨(0,[]),by simp⟩ (gc [0,1]) ?_
 rintro⟨⟨i,out⟩,hi,ho⟩
 dsimp only at hi ho |-
 have hg:=fun h:i<k.tx.length=>Qeq k.tx i h
 have hb:(out.length+1)*8<=140737488355328:=by omega
 have F:=(Jb @hg @hb)
 refine rn F ?_
 repeat' (first
  | with_reducible exact⟨⟩
  | (refine sB F ?_ ?_<;>intro hZ)
  | (refine Qp (c3 _) rfl ?_; rintro⟨t,b3⟩ -; refine rn F ?_)
  | (refine Qd (id:=5) [0,1,2,3,4,5,6] [⟨[11],[],7,[1,2,3,4,5],[8,9,10]⟩,⟨[11],[11],12,[10],[]⟩,⟨[],[],13,[],[]⟩] (by kernel_rfl) (by kernel_rfl) ?_; refine rn F ?_))
 all_goals first
  | exact⟨rfl,rfl,out,rfl,by omega⟩
  | exact⟨⟨(i+1,out),by dsimp only; omega,by dsimp only; omega⟩,by dsimp only; omega,(gc [0,1])⟩
  | exact⟨⟨(i+1,out++[(k.tx.getD i Tx0).id]),by dsimp only; omega,by simp; omega⟩,by dsimp only; omega,by dsimp only; rw[Ja]; exact(gc [0,4])⟩
  | skip
@[go_sem] def QIh(a:Sv×Nat×Int):DV:=.tup [.agg a.1.d,.int .i64 a.2.1,.int .i64 a.2.2]
def ceQ(s:Sv)(a:Sv×Nat×Int):Prop:=a.1.sm/\(a.2.2=0->Str 0 s.k a.1.k/\a.2.1+s.k.lg.es.length<=a.1.k.lg.es.length)
structure Rn(s0:Sv) where
 s:Sv
 n:Nat
 sm:s.sm
 ev:Str 0 s0.k s.k
 up:n+s0.k.lg.es.length<=s.k.lg.es.length
def QxL(s:Sv)(hs:s.sm)(tx pg sl:Int):VCalls prog 86 [.agg s.d,.int .i64 tx,.agg [.int .i64 pg,.int .i64 sl]] [] (QL QIh (ceQ s)):=by
 refine dk Tryz.func86 ?_
 (unfold Tryz.f86; refine rn trivial ?_)
 refine Qj (fun r:Rn s=>⟨57,0,[(9,.int .i64 r.n),(6,.ptr 2 0),(5,.ptr 1 0),(3,.ptr 0 0),(1,.int .i64 tx)],[⟨68,true,r.s.d⟩,⟨81,true,[.int .i64 pg,.int .i64 sl]⟩,⟨68,true,Zv⟩]⟩) (fun r=>2*(4096-r.s.k.lg.es.length)+inP r.s.k.pl.fs pg) ⟨s,0,hs,Str.refl _,by omega⟩ (gc [0,1,2]) ?_
 rintro⟨s1,n,sm,ev,up⟩
 have hle:=sm.1.1
 dsimp only
 unfold Zv
 have d1:=QB3 s1.k sm.1 tx pg sl
 have d2:=fun p=>QeN s1 sm p
 refine rn F ?_
 repeat' (first
  | with_reducible exact⟨⟩
  | (refine sB F ?_ ?_<;>intro hZ)
  | (refine Qp (d1) rfl ?_; rintro⟨k1,r1⟩ hq; refine rn F ?_)
  | (refine Qp (d2 _) rfl ?_; rintro⟨s2,e2⟩ hq2; refine rn F ?_)
  | (refine Qd (id:=6) [0,1,2,3] [⟨[],[],4,[1,2,3],[]⟩,⟨[],[],5,[2,3],[]⟩,⟨[],[],6,[],[]⟩] (by kernel_rfl) (by kernel_rfl) ?_; refine rn F ?_))
 all_goals first
  | exact⟨rfl,rfl,(s1,n,_),rfl,sm,fun _=>⟨ev,up⟩⟩
  | skip
 ·obtain ⟨g1,g2,g3⟩:=hq.2.1 (by first | assumption | (dsimp only; omega))
  have q2:=hq2.2 (by dsimp only; omega)
  dsimp only at g1 g2 g3 q2
  rw[g2] at q2
  have hl:=q2.1.ev.len
  refine⟨⟨s2,n,hq2.1,ev.trans q2.1,by omega⟩,?_,(gc [0,1,2])⟩
  unfold inP
  dsimp only
  rw[if_pos q2.2.2,if_neg (by omega)]
  omega
 ·obtain ⟨qe,q⟩:=hq.2.2.1 (by dsimp only; omega) (by dsimp only; omega) (by dsimp only; omega)
  have hk:=hq.1.1
  have h1:=QAo k1.pl.fs pg
  dsimp only at q hk
  exact⟨⟨⟨k1,s1.v⟩,n+1,⟨hq.1,sm.2⟩,ev.trans qe,by dsimp only; omega⟩,by dsimp only; omega,(gc [0,1,2])⟩
end
section
attribute [local go_sem] Qbm
def QEM (s:Sv) (hs:s.sm) (tx:Int) (a:Ac):VCalls prog 62 [.agg s.d,.int .i64 tx,.agg a.d] [] (QL srD (QGT s)):=by
 refine dk Tryz.func62 ?_
 (unfold Tryz.f62; refine rn trivial ?_)
 refine Qj (fun r:Re s=>⟨58,0,[(7,.ptr 3 0),(6,.ptr 2 0),(5,.ptr 1 0),(3,.ptr 0 0),(1,.int .i64 tx)],[⟨68,true,r.s.d⟩,⟨110,true,a.d⟩,⟨68,true,Zv⟩,⟨107,true,Zr⟩]⟩) (fun r=>4096-r.s.k.lg.es.length) ⟨s,hs,Str.refl _⟩ (gc [0,1,2,3]) ?_
 rintro⟨s1,sm,ev⟩
 dsimp only
 unfold Zv Zr
 have d1:=QEF s1 sm tx a
 have d2:=fun(t:Sv) (h:t.sm)=>Qqy t.k h.1 tx
 have d3:=fun(t:Sv) (h:t.sm)=>QxL t h
 refine rn F ?_
 repeat' (first
  | with_reducible exact⟨⟩
  | (refine sB F ?_ ?_<;>intro hZ)
  | (refine Qp (d1) rfl ?_; rintro⟨s2,r2⟩ hq; refine rn F ?_)
  | (refine Qp (d2 s2 hq.1) rfl ?_; rintro⟨x,p,q,b⟩ -; refine rn F ?_)
  | (refine Qp (d3 s2 hq.1 _ _ _) rfl ?_; rintro⟨s3,n,e3⟩ hq3; refine rn F ?_)
  | refine vp F (Qak _) ?_
  | (refine Qd (id:=4) [0,1] [⟨[],[],2,[1],[]⟩,⟨[],[],3,[],[]⟩] (by kernel_rfl) (by kernel_rfl) ?_; refine rn F ?_)
  | (refine Qd (id:=7) [0,1] [⟨[],[],2,[1],[]⟩,⟨[],[],3,[],[]⟩] (by kernel_rfl) (by kernel_rfl) ?_; refine rn F ?_)
  | (refine Qd (id:=11) [0,1] [⟨[],[],2,[0],[]⟩,⟨[],[],3,[1],[]⟩,⟨[],[],4,[],[]⟩] (by kernel_rfl) (by kernel_rfl) ?_; refine rn F ?_)
  | (refine Qd (id:=13) [0,1] [⟨[],[],2,[1],[]⟩,⟨[],[],3,[],[]⟩] (by kernel_rfl) (by kernel_rfl) ?_; refine rn F ?_))
 all_goals first
  | exact⟨rfl,rfl,(s2,r2),rfl,hq.1,fun h=>ev.trans (hq.2.1 h),fun h=>ev.tr0 (hq.2.2 h)⟩
  | exact⟨rfl,rfl,(s3,QaF e3),rfl,Qg5 s s3 hq3.1 e3⟩
  | (have q3:=(hq3.2 (by dsimp only; omega)).1
     have q4:=(ev.trans (hq.2.1 (by dsimp only; omega))).trans q3
     exact⟨rfl,rfl,(s3,r2),rfl,hq3.1,fun h=>q4,fun h=>q4.mono (by omega)⟩)
  | skip
 have qz:=hq.2.1 (by dsimp only; omega)
 have q3:=hq3.2 (by dsimp only; omega)
 have h1:=qz.ev.len
 have h2:=q3.2
 have h3:=hq3.1.1.1
 dsimp only at h1 h2 h3
 exact⟨⟨s3,hq3.1,(ev.trans qz).trans q3.1⟩,by dsimp only; omega,(gc [0,1,2,3])⟩
@[go_sem] def QIm(a:Sv×Bool×Int):DV:=.tup [.agg a.1.d,.bool a.2.1,.int .i64 a.2.2]
def wkQ(s:Sv)(a:Sv×Bool×Int):Prop:=a.1.sm/\(a.2.2=0->Str 0 s.k a.1.k)
def QBC(s:Sv)(hs:s.sm):VCalls prog 49 [.agg s.d] [] (QL QIm (wkQ s)):=by
 refine dk Tryz.func49 ?_
 have c1:=Qa2 s.k hs.1
 have c2:=fun n=>QeN s hs n
 have c3:=QxW s.k hs.1
 have hg:=fun h:0<s.k.la.length=>Qe5 s.k.la 0 h
 have e0:∀ e,e≠0->wkQ s (Sv0,false,e):=fun e h=>⟨QdC,fun h2=>absurd h2 h⟩
 (unfold Tryz.f49; refine rn trivial ?_)
 have F:=@hg
 refine rn F ?_
 repeat' (first
  | with_reducible exact⟨⟩
  | (refine sB F ?_ ?_<;>intro hZ)
  | (refine Qp (c1) rfl ?_; rintro b -; refine rn F ?_)
  | (refine Qp (c2 _) rfl ?_; rintro⟨s2,e2⟩ hq; refine rn F ?_)
  | (refine Qp (c3) rfl ?_; rintro l hl; refine rn F ?_)
  | (refine Qd (id:=4) [0,1,2,3,4,5,6] [⟨[11],[],7,[1,2,3,4,5],[8,9,10]⟩,⟨[11],[11],12,[10],[]⟩,⟨[],[],13,[],[]⟩] (by kernel_rfl) (by kernel_rfl) ?_; refine rn F ?_))
 all_goals first
  | exact⟨rfl,rfl,(Sv0,false,15),rfl,e0 _ (by decide)⟩
  | exact⟨rfl,rfl,(s,false,0),rfl,hs,fun _=>Str.refl _⟩
  | exact⟨rfl,rfl,(s2,_,e2),rfl,hq.1,fun h=>(hq.2 h).1⟩
  | skip
 have hg0:=fun h:0<l.length=>Qac l 0 h
 generalize l.getD 0 0=tx at *
 refine Qj (fun r:Re s=>⟨77,0,[(7,.pv (.sl (fz Qad l))),(2,.ptr 1 0),(1,.ptr 0 0)],[⟨68,true,r.s.d⟩,⟨68,true,Zv⟩]⟩) (fun r=>rbM tx r.s) ⟨s,hs,Str.refl _⟩ (gc [0,1]) ?_
 rintro⟨s1,sm,ev⟩
 dsimp only
 unfold Zv
 have d2:=Qtp s1.k sm.1 tx
 have d3:=fun n=>QeN s1 sm n
 have F:=@hg0
 refine rn F ?_
 repeat' (first
  | with_reducible exact⟨⟩
  | (refine sB F ?_ ?_<;>intro hZ)
  | (refine Qp (d2) rfl ?_; rintro⟨k1,r1⟩ hq; refine rn F ?_)
  | (refine Qp (d3 _) rfl ?_; rintro⟨s2,e2⟩ hq2; refine rn F ?_)
  | (refine Qd (id:=9) [0,1,2,3,4] [⟨[9,10],[],5,[0,2,3],[6,7,8]⟩,⟨[9,10],[9],11,[8],[]⟩,⟨[10],[10],12,[],[]⟩] (by kernel_rfl) (by kernel_rfl) ?_; refine rn F ?_)
  | (refine Qd (id:=11) [0,1,2] [⟨[],[],3,[1,2],[]⟩,⟨[],[],4,[1,2],[]⟩,⟨[],[],5,[],[]⟩] (by kernel_rfl) (by kernel_rfl) ?_; refine rn F ?_))
 all_goals first
  | exact⟨rfl,rfl,(Sv0,false,e2),rfl,e0 _ (by assumption)⟩
  | exact⟨rfl,rfl,(Sv0,false,r1.er),rfl,e0 _ (hq.2.2.2 (by assumption))⟩
  | exact⟨rfl,rfl,(⟨k1,s1.v⟩,true,0),rfl,⟨hq.1,sm.2⟩,fun _=>ev.trans (hq.2.2.1 (by dsimp only; omega) (by dsimp only; omega)).1⟩
  | skip
 obtain⟨v,_,g1,g2,g3⟩:=hq.2.1 (by first | assumption | (dsimp only; omega))
 have q2:=hq2.2 (by dsimp only; omega)
 dsimp only at g1 g3 q2
 rw[g1] at g3 q2
 exact⟨⟨s2,hq2.1,ev.trans q2.1⟩,QoU q2.1.ev q2.2.1 g2 g3 q2.2.2,(gc [0,1])⟩
end
def QdQ:∀ (l:List Int) (s:List UInt8),(Qkx s l).length = s.length + 8 * l.length
 | [],s=>by simp[Qkx]
 | a :: r,s=>by
   show(Qkx (Qn s a 8) r).length=_
   rw[QdQ r,Qe,Jq]; omega
def Qug(s:List UInt8)(l:List Int)(i:Nat)(h:i<l.length):Qkx s (l.take (i+1))=Qn (Qkx s (l.take i)) (l.getD i 0) 8:=by
 rw[Jg h,Qkx,Jw,Qf l i h]; rfl
def QoJ(s:List UInt8)(l:List Int)(hb:s.length+8*l.length<=900000000):VCalls prog 184 [.pv (.str s),.pv (.sl (fz Qad l))] [] (Ret (.pv (.str (Qkx s l)))):=by
 refine dd Tryz.func184 ?_
 (unfold Tryz.f184; refine rn trivial ?_)
 refine Qj (fun t:To l.length=>⟨19,0,[(5,.int .i64 t.i),(1,.pv (.sl (fz Qad l))),(0,.pv (.str (Qkx s (l.take t.i))))],[]⟩) (fun t=>l.length-t.i) ⟨0,Jc _⟩ (gc []) ?_
 rintro⟨i,hi⟩
 dsimp only
 have hg:=fun h:i<l.length=>Qac l i h
 have hlen:=QdQ (l.take i) s
 rw[Jr] at hlen
 have p2:=QY (Qkx s (l.take i)) (by omega) (l.getD i 0) 8 (by omega) (by omega)
 have hs:=Qug s l i
 have F:=@hg
 refine rn F ?_
 repeat' (first
  | with_reducible exact⟨⟩
  | (refine sB F ?_ ?_<;>intro hZ)
  | refine vp F (p2) ?_)
 ·refine ⟨⟨i + 1,by omega⟩,by dsimp only; omega,?_⟩
  dsimp only
  rw[hs (by omega)]
  exact(gc [])
 ·rw[Jn (by omega)]
def QvJ(s:List UInt8)(t:Tx):(Qe8 s t).length=s.length+24+8*t.l.length+8*t.s.length:=by
 unfold Qe8
 rw[QdQ,Qe,QdQ,Qe,Qe,Qe,Qe,Qe]; omega
def Qke:∀ (l:List Tx) (s:List UInt8),(∀ t ∈ l,t.l.length<=4096/\t.s.length<=8)->(Qe7 s l).length<=s.length + 32856 * l.length
 | [],s,_=>by simp[Qe7]
 | t :: r,s,h=>by
   have h1:=h t (by simp)
   have h2:=Qke r (Qe8 s t) fun t ht=>h t (JO _ ht)
   show(Qe7 (Qe8 s t) r).length<=_
   rw[QvJ] at h2
   rw[Jq]; omega
def Qq4(s:List UInt8)(l:List Tx)(i:Nat)(h:i<l.length):Qe7 s (l.take (i+1))=Qe8 (Qe7 s (l.take i)) (l.getD i Tx0):=by
 rw[Jg h,Qe7,Jw,Qf l i h]; rfl
def QoA(hv:QbD l=true):∀ t∈l,t.l.length<=4096/\t.s.length<=8:=fun t ht=>by
 obtain⟨i,hi,rfl⟩:=JQ ht
 exact Qep (Qbz hv hi)
def Qpy(hv:QbD l=true):(QaY l).length<=3000000:=by
 have:=Qke l (Qn [] l.length 2) (QoA hv)
 have h2:=QeF hv
 rw[Qe,Ju] at this
 unfold QaY
 omega
def QBF(l:List Tx)(hl:smN 65 l)(hv:QbD l=true):VCalls prog 136 [.pv (.sl (fz Qap l))] [] (Ret (.tup [.pv (.str (QaY l)),.int .i64 0])):=by
 refine dd Tryz.func136 ?_
 have c1:=QbW l (hl.smL (by omega))
 have hsm:=QoA hv
 have hle:=QeF hv
 rw[hv] at c1
 unfold QaY
 have p1:=QY [] (by simp) l.length 2 (by omega) (by omega)
 (unfold Tryz.f136; refine rn trivial ?_)
 refine rn F ?_
 repeat' (first
  | with_reducible exact⟨⟩
  | refine vp F (c1) ?_
  | refine vp F (p1) ?_)
 refine Qj (fun t:To l.length=>⟨56,0,[(5,.int .i64 t.i),(4,.pv (.str (Qe7 (Qn [] l.length 2) (l.take t.i)))),(0,.pv (.sl (fz Qap l)))],[]⟩) (fun t=>l.length-t.i) ⟨0,Jc _⟩ (gc []) ?_
 rintro⟨i,hi⟩
 dsimp only
 have hg:=fun h:i<l.length=>Qeq l i h
 have hlen:=Qke (l.take i) (Qn [] l.length 2) fun t ht=>hsm t (JP ht)
 rw[Qe,Jr,Ju] at hlen
 have hsc:=Qq4 (Qn [] l.length 2) l i
 have hend:l.length<=i->l.take i=l:=fun h=>Jn h
 by_cases hc:i<l.length
 ·have hq:=hsm (l.getD i Tx0) (by rw [Qf l i hc]; exact Jh hc)
  replace hsc:=hsc hc
  generalize Qe7 (Qn [] l.length 2) (l.take i)=s at *
  generalize l.getD i Tx0=x at *
  obtain⟨id,st,n,b,q,sv⟩:=x
  dsimp only at hg hq
  obtain⟨hq1,hq2⟩:=hq
  unfold Qe8 at hsc
  dsimp only at hsc
  have z0:s.length<=3000000:=by omega
  have p2:=QY s (by omega) id 4 (by omega) (by omega)
  have p3:=QY (Qn s id 4) (by rw[Qe]; omega) st 1 (by omega) (by omega)
  have p4:=QY (Qn (Qn s id 4) st 1) (by rw[Qe,Qe]; omega) n 8 (by omega) (by omega)
  have p5:=QY (Qn (Qn (Qn s id 4) st 1) n 8) (by rw[Qe,Qe,Qe]; omega) b 8 (by omega) (by omega)
  have p6:=QY (Qn (Qn (Qn (Qn s id 4) st 1) n 8) b 8) (by rw[Qe,Qe,Qe,Qe]; omega) q.length 2 (by omega) (by omega)
  have p6b:=QoJ (Qn (Qn (Qn (Qn (Qn s id 4) st 1) n 8) b 8) q.length 2) q (by rw[Qe,Qe,Qe,Qe,Qe]; omega)
  have p7:=QY (Qkx (Qn (Qn (Qn (Qn (Qn s id 4) st 1) n 8) b 8) q.length 2) q) (by rw[QdQ,Qe,Qe,Qe,Qe,Qe]; omega) sv.length 1 (by omega) (by omega)
  have p7b:=QoJ (Qn (Qkx (Qn (Qn (Qn (Qn (Qn s id 4) st 1) n 8) b 8) q.length 2) q) sv.length 1) sv (by rw[Qe,QdQ,Qe,Qe,Qe,Qe,Qe]; omega)
  have F:=@hg
  refine rn F ?_
  repeat' (first
   | with_reducible exact⟨⟩
   | refine vp F (p2) ?_
   | refine vp F (p3) ?_
   | refine vp F (p4) ?_
   | refine vp F (p5) ?_
   | refine vp F (p6) ?_
   | refine vp F (p6b) ?_
   | refine vp F (p7) ?_
   | refine vp F (p7b) ?_
   | (refine Qd (id:=12) [0,1,2,3,5,6] [⟨[],[],4,[1,2,5,6],[]⟩,⟨[],[],7,[0,1,2,3,5],[]⟩,⟨[],[],8,[],[]⟩] (by kernel_rfl) (by kernel_rfl) ?_; refine rn F ?_)
   | (refine Qd (id:=13) [0,1,2,3,5,6] [⟨[],[],4,[1,2,5,6],[]⟩,⟨[],[],7,[0,1,2,3,5],[]⟩,⟨[],[],8,[],[]⟩] (by kernel_rfl) (by kernel_rfl) ?_; refine rn F ?_))
  refine⟨⟨i+1,by omega⟩,by dsimp only; omega,?_⟩
  dsimp only
  rw[hsc]
  exact(gc [])
 ·rw [hend (by omega)]
  have F:=@hg
  (refine rn F ?_; try with_reducible exact⟨⟩)
def Qe9:∀ (l:List Rw) (s:List UInt8),(Qeu s l).length = s.length + 24 * l.length
 | [],s=>by simp[Qeu]
 | t :: r,s=>by
   show(Qeu (Qkf s t) r).length=_
   rw[Qe9 r]
   unfold Qkf
   rw[Qe,Qe,Qe,Jq]; omega
def QiY(s:List UInt8)(l:List Rw)(i:Nat)(h:i<l.length):Qeu s (l.take (i+1))=Qkf (Qeu s (l.take i)) (l.getD i Rw0):=by
 rw[Jg h,Qeu,Jw,Qf l i h]; rfl
def Qmu(l:List Rw):(QcI l).length=2+24*l.length:=by
 unfold QcI; rw[Qe9,Qe,Ju]
def Qx1(l:List Rw)(hl:l.length<=64)(hv:ixB l=true):VCalls prog 137 [.agg [.pv (.sl (fz Qcr l))]] [] (Ret (.tup [.pv (.str (QcI l)),.int .i64 0])):=by
 refine dd Tryz.func137 ?_
 have c1:=QbM l (by omega)
 have c2:=QY [] (by simp) l.length 2 (by omega) (by omega)
 rw[hv] at c1
 unfold QcI
 (unfold Tryz.f137; refine rn trivial ?_)
 refine rn F ?_
 repeat' (first
  | with_reducible exact⟨⟩
  | refine vp F (c1) ?_
  | refine vp F (c2) ?_)
 refine Qj (fun r:To l.length=>⟨45,0,[(5,.int .i64 r.i),(4,.pv (.str (Qeu (Qn [] l.length 2) (l.take r.i)))),(1,.ptr 0 0)],[⟨36,true,[.pv (.sl (fz Qcr l))]⟩]⟩) (fun r=>l.length-r.i) ⟨0,Jc _⟩ (gc [0]) ?_
 rintro⟨i,hi⟩
 dsimp only
 have hg:=fun h:i<l.length=>Qml l i h
 have hlen:=Qe9 (l.take i) (Qn [] l.length 2)
 rw[Qe,Jr,Ju] at hlen
 have hsc:=QiY (Qn [] l.length 2) l i
 have hend:l.length<=i->l.take i=l:=fun h=>Jn h
 by_cases hc:i<l.length
 ·replace hsc:=hsc hc
  generalize Qeu (Qn [] l.length 2) (l.take i)=s at *
  generalize l.getD i Rw0=x at *
  unfold Qkf at hsc
  have p1:=QY s (by omega) x.lsn 8 (by omega) (by omega)
  have p2:=QY (Qn s x.lsn 8) (by rw[Qe]; omega) x.im 8 (by omega) (by omega)
  have p3:=QY (Qn (Qn s x.lsn 8) x.im 8) (by rw[Qe,Qe]; omega) x.at_ 8 (by omega) (by omega)
  have F:=@hg
  refine rn F ?_
  repeat' (first
   | with_reducible exact⟨⟩
   | refine vp F (p1) ?_
   | refine vp F (p2) ?_
   | refine vp F (p3) ?_)
  refine⟨⟨i+1,by omega⟩,by dsimp only; omega,?_⟩
  dsimp only
  rw[hsc]
  exact(gc [0])
 ·rw [hend (by omega)]
  have F:=@hg
  (refine rn F ?_; try with_reducible exact⟨⟩)
section
attribute [local go_sem] QbB
@[go_sem] def Cp.d(c:Cp):List DV:=[.int .i64 c.pg,.int .i64 c.nx,.pv (.sl (fz Qap c.tx)),.pv (.sl (fz Qc6 c.dl)),.pv (.sl (fz Qcr c.ix))]
def Cp0:Cp:=⟨0,0,[],[],[]⟩
def Cp.sm(c:Cp):Prop:=smN 65 c.tx/\c.dl.length<=10000/\c.ix.length<=64
def QGe:Cp0.sm:=⟨Q3 _,by decide,by decide⟩
@[go_sem] def QHU(a:Cp×Int):DV:=.tup [.agg a.1.d,.int .i64 a.2]
def Zc:List DV:=[.int .i64 0,.int .i64 0,.pv (.slc []),.pv (.slc []),.pv (.slc [])]
def QlB(h:plB p=true)(hi:i<p.fs.length):frC p.fs i=true:=by
 unfold plB at h
 rw[Je,Jp] at h
 exact h.2 i (Js.2 hi)
def Qvu(h:frC l i=true)(hk:k<i):(l.getD k Fm0).pg.id≠(l.getD i Fm0).pg.id:=by
 unfold frC at h
 rw[Je,Jp] at h
 have:=h.2 k (Js.2 hk)
 unfold QAz at this
 simpa using this
def Qn8(h:frC l i=true):0<=(l.getD i Fm0).pg.id/\(l.getD i Fm0).pg.id<64:=by
 unfold frC Pg.okB Pg.numB at h
 simp only[Je,decide_eq_true_eq] at h
 omega
def Qup(h:plB p=true)(hi:i<p.fs.length):idF p.fs (p.fs.getD i Fm0).pg.id=i:=by
 obtain⟨j,hj,h1,h2⟩:=Qpl (l:=p.fs) (a:=(p.fs.getD i Fm0).pg.id) ⟨i,hi,rfl⟩
 rcases JJ i j with h3 | h3 | h3
 ·exact absurd h2.symm (Qvu (QlB h hj) h3)
 ·rw[h1,h3]
 ·exact absurd h2 (Qvu (QlB h hi) h3)
structure DyL(p:Pl)(l:List Dt):Prop where
 le:l.length<=64
 to:∀ d∈l,∃ f∈p.fs,f.dirty=true/\f.pg.id=d.pg/\f.pg.lsn=d.last
 of:plB p=true->∀ f∈p.fs,f.dirty=true->∃ d∈l,d.pg=f.pg.id
structure DyI(p:Pl) where
 i:Nat
 out:List Dt
 hi:i<=64
 ho:out.length<=i
 to:∀ d∈out,∃ f∈p.fs,f.dirty=true/\f.pg.id=d.pg/\f.pg.lsn=d.last
 of:∀ a:Nat,a<i->0<=idF p.fs a->(p.fs.getD (idF p.fs a).toNat Fm0).dirty=true->∃ d∈out,d.pg=a
def QxS(p:Pl)(hl:p.fs.length<=100000):VCalls prog 134 [.agg p.d] [] (QL (fun l:List Dt=>.pv (.sl (fz Qc6 l))) (DyL p)):=by
 refine dk Tryz.func134 ?_
 have c1:=Qas p (by omega)
 have c2:=QcT p (by omega)
 have hfin:=fun(out:List Dt) (h1:out.length<=64) (h2:∀ d∈out,∃ f∈p.fs,f.dirty=true/\f.pg.id=d.pg/\f.pg.lsn=d.last) (h3:plB p=true->∀ a:Nat,a<64->0<=idF p.fs a->(p.fs.getD (idF p.fs a).toNat Fm0).dirty=true->∃ d∈out,d.pg=a)=>(⟨h1,h2,fun hp f hf hd=>by
  obtain⟨i,hi,rfl⟩:=Jd.1 hf
  have e1:=Qf p.fs i hi Fm0
  have e2:=Qup hp hi
  have e3:=Qn8 (QlB hp hi)
  rw[e1] at e2 e3
  obtain⟨m,hm⟩:∃ m:Nat,(p.fs[i]).pg.id=m:=⟨(p.fs[i]).pg.id.toNat,by omega⟩
  rw[hm] at e2 e3 |-
  exact h3 hp m (by omega) (by omega) (by rw[e2,Jm,e1]; exact hd)⟩:DyL p out)
 generalize plB p=b at *
 (unfold Tryz.f134; refine rn trivial ?_)
 refine rn F ?_
 repeat' (first
  | with_reducible exact⟨⟩
  | (refine sB F ?_ ?_<;>intro hZ)
  | refine vp F (c1) ?_)
 ·exact⟨rfl,rfl,[],rfl,hfin [] (Jc _) (fun d h=>by simp at h) (fun h=>by simp_all)⟩
 refine VLoop.nilOwn 3 167 3 rfl ?_
 refine rn trivial ?_
 refine Qj (fun s:DyI p=>⟨45,0,[(4,.int .i64 s.i),(3,.own 1 3 0 s.out.length),(1,.ptr 0 0)],[⟨29,true,p.d⟩,⟨167,true,cells Qc6 s.out⟩]⟩) (fun s=>64-s.i) ⟨0,[],Jc _,Jc _,fun d h=>by simp at h,fun a h=>by omega⟩ (gc [0,1]) ?_
 rintro⟨i,out,hi,ho,hto,hof⟩
 dsimp only
 have c3:=c2 i
 have hnx:=fun(out2:List Dt) (hs:∀ d∈out,d∈out2) (hn:0<=idF p.fs i->(p.fs.getD (idF p.fs i).toNat Fm0).dirty=true->∃ d∈out2,d.pg=i) (a:Nat) (ha:a<i+1) (h0:0<=idF p.fs a) (h1:(p.fs.getD (idF p.fs a).toNat Fm0).dirty=true)=>(by
  rcases J4 a i with h2 | h2
  ·obtain ⟨d,hd,he⟩:=hof a h2 h0 h1
   exact⟨d,hs d hd,he⟩
  ·obtain rfl:a = i:=by omega
   exact hn h0 h1:∃ d∈out2,d.pg=a)
 have hfi:64<=i->DyL p out:=fun h=>hfin out (by omega) hto fun _ a ha=>hof a (by omega)
 rcases Qa6 p.fs i with h | ⟨j,hj,h,hpg⟩
 all_goals rw[h] at c3
 ·rw [h] at hnx
  refine rn F ?_
  repeat' (first
   | with_reducible exact⟨⟩
   | (refine sB F ?_ ?_<;>intro hZ)
   | refine vp F (c3) ?_)
  ·exact⟨⟨i+1,out,by omega,by omega,hto,hnx out (fun d h=>h) (fun h=>by omega)⟩,by dsimp only; omega,(gc [0,1])⟩
  ·exact⟨rfl,rfl,out,rfl,hfi (by omega)⟩
 ·have hg:=Qcg p.fs j hj
  have hb:(out.length+1)*24<=140737488355328:=by omega
  have hfm:p.fs.getD j Fm0∈p.fs:=by rw[Qf _ _ hj]; exact Jh hj
  rw[h,Jm] at hnx
  generalize p.fs.getD j Fm0=f at *
  have F:=(Jb @hg @hb)
  refine rn F ?_
  repeat' (first
   | with_reducible exact⟨⟩
   | (refine sB F ?_ ?_<;>intro hZ)
   | refine vp F (c3) ?_
   | (refine Qd (id:=9) [0,1,2,3,4,5,6,7,8,9,10,11,12,13,14,15] [⟨[16],[16],17,[1,2,3,4,5,6,7,8,9,10,11,12,13,14,15],[]⟩,⟨[],[],18,[],[]⟩] (by kernel_rfl) (by kernel_rfl) ?_; refine rn F ?_))
  ·exact ⟨⟨i + 1,out ++ [⟨i,f.rc,f.pg.lsn⟩],by omega,by simp; omega,fun d hd=>by
   rcases Ji.1 hd with hd | hd
   ·exact hto d hd
   ·rw[Jf.1 hd]; exact⟨f,hfm,by first | assumption | simp_all,hpg,rfl⟩,hnx _ (fun d h=>Jl _ h) (fun _ _=>⟨⟨i,f.rc,f.pg.lsn⟩,by simp,rfl⟩)⟩,by dsimp only; omega,by dsimp only; rw[Ja]; exact(gc [0,3])⟩
  ·exact⟨⟨i+1,out,by omega,by omega,hto,hnx out (fun d h=>h) (fun _ h=>by simp_all)⟩,by dsimp only; omega,(gc [0,1])⟩
  ·exact⟨rfl,rfl,out,rfl,hfi (by omega)⟩
def Ql9(h:(d,true)=Qbl l n):d∈l/\d.pg=n:=by
 unfold Qbl at h
 split at h
 ·rename_i e he
  obtain rfl:d=e:=by simpa using congrArg Prod.fst h
  exact⟨List.mem_of_find?_eq_some he,by simpa using List.find?_some he⟩
 ·simp at h
def Qj5(h:(d,false)=Qbl l n):∀ e∈l,e.pg≠n:=by
 unfold Qbl at h
 split at h
 ·simp at h
 ·rename_i he
  rw[List.find?_eq_none] at he
  intro e h1
  simpa using he e h1
structure OfI(k:Kn)(n m:Nat)(out:List Dt):Prop where
 dl:∀ d∈out,(∃ e∈k.la,e.pg=d.pg/\e.last=d.last)\/∃ f∈k.pl.fs,f.dirty=true/\f.pg.id=d.pg/\f.pg.lsn=d.last
 la:∀ e∈k.la,0<=e.pg->e.pg<n->∃ d∈out,d.pg=e.pg
 fs:∀ f∈k.pl.fs,f.dirty=true->f.pg.id<m->∃ d∈out,d.pg=f.pg.id
def OfI.ex (h:OfI k n m out) (hd:(∃ e ∈ k.la,e.pg = d.pg/\e.last = d.last)\/∃ f ∈ k.pl.fs,f.dirty = true/\f.pg.id = d.pg/\f.pg.lsn = d.last):OfI k n m (out ++ [d]) :=
 ⟨fun e he=>by
   rcases Ji.1 he with he | he
   ·exact h.dl e he
   ·rw[Jf.1 he]; exact hd,
  fun e a b c=>by obtain⟨x,h1,h2⟩:=h.la e a b c; exact⟨x,Jl _ h1,h2⟩,
  fun e a b c=>by obtain⟨x,h1,h2⟩:=h.fs e a b c; exact⟨x,Jl _ h1,h2⟩⟩
def OfI.hit(h:OfI k n m out)(hd:(d,true)=Qbl k.la n):OfI k (n+1) m (out++[d]):=by
 obtain⟨h1,h2⟩:=Ql9 hd
 have:=h.ex (d:=d) (.inl ⟨d,h1,rfl,rfl⟩)
 refine⟨this.dl,fun e a b c=>?_,this.fs⟩
 by_cases hn:e.pg=n
 ·exact⟨d,by simp,by rw[h2,hn]⟩
 ·exact this.la e a b (by omega)
def OfI.miss(h:OfI k n m out)(hd:(d,false)=Qbl k.la n):OfI k (n+1) m out:=
 ⟨h.dl,fun e a b c=>h.la e a b (by have:=Qj5 hd e a; omega),h.fs⟩
def OfI.up(h:OfI k n m out)(hv:plB k.pl=true)(hl:DyL k.pl l)(hs:∀ d∈l,d.pg=m->∃ e∈out,e.pg=m):OfI k n (m+1) out:=
 ⟨h.dl,h.la,fun f a b c=>by
  by_cases hn:f.pg.id=m
  ·obtain ⟨d,h1,h2⟩:=hl.of hv f a b
   rw[hn] at h2 |-
   exact hs d h1 h2
  ·exact h.fs f a b (by omega)⟩
structure OfL(k:Kn) where
 i:Nat
 out:List Dt
 hi:(i:Int)<=k.pg
 ho:out.length<=65*i
 h:OfI k i i out
structure OfJ(k:Kn)(i:Nat)(l:List Dt) where
 j:Nat
 out:List Dt
 hj:j<=l.length
 ho:out.length<=65*i+1+j
 h:OfI k (i+1) i out
 s:∀ d∈l.take j,d.pg=i->∃ e∈out,e.pg=i
def OfJ.nx(r:OfJ k i l)(hj:r.j<l.length)(out2:List Dt)(hs:∀ d∈r.out,d∈out2)(hn:(l.getD r.j Dt0).pg=i->∃ e∈out2,e.pg=i):∀ d∈l.take (r.j+1),d.pg=i->∃ e∈out2,e.pg=i:=fun d hd he=>by
 rw[Jg hj] at hd
 rcases Ji.1 hd with hd | hd
 ·obtain ⟨x,h1,h2⟩:=r.s d hd he
  exact⟨x,hs x h1,h2⟩
 ·rw [Jf.1 hd] at he
  exact hn (by rw[Qf _ _ hj]; exact he)
def QHi(k:Kn)(a:Cp×Int):Prop:=a.1.sm/\(a.2=0->CkOf k a.1)
def QB1(k:Kn)(h:k.sm):VCalls prog 94 [.agg k.d] [] (QL QHU (QHi k)):=by
 refine dk Tryz.func94 ?_
 have c1:=QbX k h
 obtain⟨h1,h2,h3,h4,h5,h6⟩:=h
 have c2:=fun n=>Qgp k (by omega) n
 have c3:=QxS k.pl (by omega)
 (unfold Tryz.f94; refine rn trivial ?_)
 cases hv:kB k
 ·rw [hv] at c1
  refine rn F ?_
  repeat' (first
   | with_reducible exact⟨⟩
   | refine vp F (c1) ?_)
  exact⟨rfl,rfl,(Cp0,15),rfl,QGe,fun h=>by simp at h⟩
 rw[hv] at c1
 obtain⟨⟨vk,_,vla⟩,v2⟩:=(⟨QFo hv,QyZ hv⟩:VP k/\V2 k)
 have hpg:=vk.1
 have hpl:=vk.2.2.2.1
 have hend:∀ (i:Nat) out,(i:Int)=k.pg->OfI k i i out->CkOf k ⟨k.pg,k.nx,k.tx,out,k.ix⟩:=fun i out hi ho=>⟨rfl,rfl,rfl,rfl,ho.dl,fun e he=>by
  obtain⟨j,hj,rfl⟩:=Jd.1 he
  unfold laB at vla
  rw[Jp] at vla
  have:=(QnW _ _ _).1 (vla j (Js.2 hj))
  rw[Qf _ _ hj] at this
  exact ho.la _ he this.1 (by omega),fun f hf hd=>by
  obtain⟨j,hj,rfl⟩:=Jd.1 hf
  have:=(v2.frs j hj).1
  rw[Qf _ _ hj] at this
  exact ho.fs _ hf hd (by omega)⟩
 refine rn F ?_
 repeat' (first
  | with_reducible exact⟨⟩
  | refine vp F (c1) ?_)
 refine VLoop.nilOwnC 2 3 167 3 rfl rfl ?_
 refine rn trivial ?_
 refine Qj (fun s:OfL k=>⟨62,0,[(5,.int .i64 s.i),(4,.ptr 2 0),(2,.ptr 1 0),(1,.ptr 0 0)],[⟨39,true,k.d⟩,⟨189,true,Zc⟩,⟨189,true,[.int .i64 k.pg,.int .i64 k.nx,.pv (.sl (fz Qap k.tx)),.own 3 3 0 s.out.length,.pv (.sl (fz Qcr k.ix))]⟩,⟨167,true,cells Qc6 s.out⟩]⟩) (fun s=>64-s.i) ⟨0,[],by omega,by simp,⟨fun d h=>by simp at h,fun e _ _ h=>by omega,fun f hf hd h=>by
  obtain⟨j,hj,rfl⟩:=Jd.1 hf
  have:=Qn8 (QlB hpl hj)
  rw[Qf _ _ hj] at this
  omega⟩⟩ (gc [0,1,2,3]) ?_
 rintro⟨i,out,hi,ho,hI⟩
 dsimp only
 unfold Zc
 have hb1:(out.length+1)*24<=140737488355328:=by omega
 by_cases hc:(i:Int)<k.pg
 rotate_left
 ·skip
  have F:=@hc
  refine rn F ?_
  exact⟨rfl,rfl,(⟨k.pg,k.nx,k.tx,out,k.ix⟩,0),rfl,⟨h4,by dsimp only; omega,h5⟩,fun _=>hend i out (by omega) hI⟩
 have F:=(Jb @hb1 @hc)
 refine rn F ?_
 refine Qp (c2 i) rfl ?_
 rintro⟨d,b2⟩ hdl
 have hdl2:=hdl
 cases b2
 case' false=>have hI2:=hI.miss hdl
 case' true=>have hI2:=hI.hit hdl
 all_goals clear hdl hdl2
 all_goals
  have F:=(Jb @hb1 @hc)
  refine rn F ?_
  refine Qp c3 rfl ?_
  rintro l hl
  have hll:=hl.le
  have F:=(Jb @hb1 @hc)
  (refine rn F ?_; try with_reducible exact⟨⟩)
 all_goals
  first
   | refine Qj (fun s:OfJ k i l=>⟨62,0,[(46,.int .i64 s.j),(45,.int .i64 l.length),(44,.pv (.sl (fz Qc6 l))),(5,.int .i64 i),(4,.ptr 2 0),(2,.ptr 1 0),(1,.ptr 0 0)],[⟨39,true,k.d⟩,⟨189,true,Zc⟩,⟨189,true,[.int .i64 k.pg,.int .i64 k.nx,.pv (.sl (fz Qap k.tx)),.own 3 3 0 s.out.length,.pv (.sl (fz Qcr k.ix))]⟩,⟨167,true,cells Qc6 s.out⟩]⟩) (fun s=>l.length-s.j) ⟨0,out++[d],Jc _,by rw[Ja]; simp; omega,hI2,fun d h=>by simp at h⟩ (by dsimp only; rw[Ja]; exact(gc [0,1,2,6])) ?_
   | refine Qj (fun s:OfJ k i l=>⟨62,0,[(46,.int .i64 s.j),(45,.int .i64 l.length),(44,.pv (.sl (fz Qc6 l))),(5,.int .i64 i),(4,.ptr 2 0),(2,.ptr 1 0),(1,.ptr 0 0)],[⟨39,true,k.d⟩,⟨189,true,Zc⟩,⟨189,true,[.int .i64 k.pg,.int .i64 k.nx,.pv (.sl (fz Qap k.tx)),.own 3 3 0 s.out.length,.pv (.sl (fz Qcr k.ix))]⟩,⟨167,true,cells Qc6 s.out⟩]⟩) (fun s=>l.length-s.j) ⟨0,out,Jc _,by omega,hI2,fun d h=>by simp at h⟩ (gc [0,1,2,3]) ?_
  rintro⟨j,o2,hj,ho2,hJ,hs2⟩
  dsimp only
  unfold Zc
  have hb2:(o2.length+1)*24<=140737488355328:=by omega
  have hnx:=fun h=>OfJ.nx ⟨j,o2,hj,ho2,hJ,hs2⟩ h
  dsimp only at hnx
  by_cases hjl:j<l.length
  rotate_left
  ·have hup:=hJ.up hpl hl (by rw [Jn (by omega)] at hs2; exact hs2)
   have F:=@hjl
   refine rn F ?_
   exact⟨⟨i+1,o2,by omega,by omega,hup⟩,by dsimp only; omega,(gc [0,1,2,3])⟩
  have hy:=Qe5 l j hjl
  have hto:=hl.to (l.getD j Dt0) (by rw[Qf _ _ hjl]; exact Jh hjl)
  replace hnx:=hnx hjl
  generalize l.getD j Dt0=x at *
  have F:=(Jb @hy (Jb @hb2 @hjl))
  refine rn F ?_
  repeat' (first
   | with_reducible exact⟨⟩
   | (refine sB F ?_ ?_<;>intro hZ))
 all_goals first
  | exact⟨⟨j+1,o2,hjl,by omega,hJ,hnx o2 (fun d h=>h) (fun h=>absurd h (by assumption))⟩,by dsimp only; omega,(gc [0,1,2,3])⟩
  | exact⟨⟨j+1,o2++[x],hjl,by simp; omega,hJ.ex (.inr hto),hnx _ (fun d h=>Jl _ h) (fun _=>⟨x,by simp,by assumption⟩)⟩,by dsimp only; omega,by dsimp only; rw[Ja]; exact(gc [0,1,2,6])⟩
  | skip
end
def QwI(es:List E)(a:Int):Prop:=∃ e∈es,e.tx=a/\(e.kind=3\/e.kind=5)
def abE(es:List E)(a:Int):Prop:=∃ e∈es,e.tx=a/\e.kind=4
def Qj4(es:List E)(a:Int):Int:=es.foldl (fun n e=>if e.tx=a then e.lsn else n) 0
def Qd4(es:List E)(p:Int):Int:=es.foldl (fun n e=>if (e.kind=1\/e.kind=2)/\e.c.pg=p then e.lsn else n) 0
def Qd3(es:List E)(a:Int):List Int:=es.foldl (fun l e=>if e.tx=a then (if e.kind=1 then l++[e.lsn] else if e.kind=2 then l.filter (fun x=>decide (x≠e.ref)) else l) else l) []
def QdV(es:List E)(e:E)(a:Int):Qj4 (es++[e]) a=if e.tx=a then e.lsn else Qj4 es a:=by unfold Qj4; rw[Jw]; rfl
def QcA(es:List E)(e:E)(p:Int):Qd4 (es++[e]) p=if (e.kind=1\/e.kind=2)/\e.c.pg=p then e.lsn else Qd4 es p:=by unfold Qd4; rw[Jw]; rfl
def QdT(es:List E)(e:E)(a:Int):Qd3 (es++[e]) a=if e.tx=a then (if e.kind=1 then Qd3 es a++[e.lsn] else if e.kind=2 then (Qd3 es a).filter (fun x=>decide (x≠e.ref)) else Qd3 es a) else Qd3 es a:=by unfold Qd3; rw[Jw]; rfl
def Qdr(es:List E)(e:E)(a:Int):QwI (es++[e]) a ↔ QwI es a\/(e.tx=a/\(e.kind=3\/e.kind=5)):=by
 unfold QwI
 constructor
 ·rintro ⟨x,hx,h⟩
  rcases Ji.1 hx with hx | hx
  ·exact .inl ⟨x,hx,h⟩
  ·rw[Jf.1 hx] at h; exact .inr h
 ·rintro (⟨x,hx,h⟩ | h)
  ·exact⟨x,Jl _ hx,h⟩
  ·exact⟨e,by simp,h⟩
def QpP(es:List E)(e:E)(a:Int):abE (es++[e]) a ↔ abE es a\/(e.tx=a/\e.kind=4):=by
 unfold abE
 constructor
 ·rintro ⟨x,hx,h⟩
  rcases Ji.1 hx with hx | hx
  ·exact .inl ⟨x,hx,h⟩
  ·rw[Jf.1 hx] at h; exact .inr h
 ·rintro (⟨x,hx,h⟩ | h)
  ·exact⟨x,Jl _ hx,h⟩
  ·exact⟨e,by simp,h⟩
def QeH {α:Type} {P:List α->Prop} (h0:P []) (hs:∀ l a,P l->P (l ++ [a])):∀ l,P l:=fun l=>by
 have:∀ n,∀ l:List α,l.length = n->P l:=fun n=>by
  induction n with
  | zero=>intro l h; rw[JN h]; exact h0
  | succ n ih =>
    intro l h
    have hne:l≠[]:=fun q=>by rw[q] at h; simp at h
    rw[<- List.dropLast_concat_getLast hne]
    exact hs _ _ (ih _ (by rw[List.length_dropLast]; omega))
 exact this _ l rfl
def QyS(es:List E)(h0:0<=n)(p:Int)(h:∀ x∈es,x.lsn<n):Qd4 es p<=n:=by
 revert h
 refine QeH (P:=fun es=>(∀ x∈es,x.lsn<n)->Qd4 es p<=n) (fun _=>h0) (fun l a ih h=>?_) es
 rw[QcA]
 split
 ·have:=h a (by simp); omega
 ·exact ih fun x hx=>h x (Jl _ hx)
def Ql7(es:List E)(hl:∀ x∈es,1<=x.lsn)(h:∃ x∈es,x.tx=a):1<=Qj4 es a:=by
 revert hl h
 refine QeH (P:=fun es=>(∀ x∈es,1<=x.lsn)->(∃ x∈es,x.tx=a)->1<=Qj4 es a) (fun _ h=>by obtain⟨x,hx,_⟩:=h; simp at hx) (fun l e ih h hx=>?_) es
 rw[QdV]
 split
 ·exact h e (by simp)
 ·rename_i hne
  obtain⟨x,hx,hxa⟩:=hx
  rcases Ji.1 hx with hx | hx
  ·exact ih (fun y hy=>h y (Jl _ hy)) ⟨x,hx,hxa⟩
  ·rw[Jf.1 hx] at hxa; exact absurd hxa hne
def QqJ(es:List E)(h:∀ x∈es,x.tx≠a):Qj4 es a=0:=by
 revert h
 refine QeH (P:=fun es=>(∀ x∈es,x.tx≠a)->Qj4 es a=0) (fun _=>rfl) (fun l e ih h=>?_) es
 rw[QdV,if_neg (h e (by simp))]
 exact ih fun x hx=>h x (Jl _ hx)
def QqD(es:List E)(h:∀ x∈es,x.tx≠a):Qd3 es a=[]:=by
 revert h
 refine QeH (P:=fun es=>(∀ x∈es,x.tx≠a)->Qd3 es a=[]) (fun _=>rfl) (fun l e ih h=>?_) es
 rw[QdT,if_neg (h e (by simp))]
 exact ih fun x hx=>h x (Jl _ hx)
structure TxOk(es:List E)(t:Tx):Prop where
 n:t.n=Qj4 es t.id
 l:t.l=Qd3 es t.id
 ne:¬ QwI es t.id
 ab:t.st=3 ↔ abE es t.id
def TxOk.other(h:TxOk es t)(hne:e.tx≠t.id):TxOk (es++[e]) t:=
 ⟨by rw [QdV,if_neg hne]; exact h.n,by rw [QdT,if_neg hne]; exact h.l,by
  rw[Qdr]; rintro(q | q)
  ·exact h.ne q
  ·exact hne q.1,by
  rw[QpP,h.ab]
  exact⟨.inl,fun q=>q.elim id fun q=>absurd q.1 hne⟩⟩
def TxOk.fresh(h:∀ x∈es,x.tx≠a):TxOk es ⟨a,1,0,0,[],[]⟩:=
 ⟨(QqJ es h).symm,(QqD es h).symm,fun⟨x,hx,q,_⟩=>h x hx q,⟨fun q=>by simp at q,fun⟨x,hx,q,_⟩=>absurd q (h x hx)⟩⟩
def Qs9(t:Tx):(QK t).n=t.n:=by unfold QK; split<;>rfl
def Qta(t:Tx):(QK t).l=t.l:=by unfold QK; split<;>rfl
def Qtb(t:Tx):(QK t).st=3 ↔ t.st=3:=by
 unfold QK; split
 ·rename_i h; simp; omega
 ·exact Iff.rfl
def QsW(h:QbD l=true)(ht:t∈l)(hu:u∈l)(he:t.id=u.id):t=u:=by
 have hs:=Qef h
 obtain⟨i,hi,rfl⟩:=Jd.1 ht
 obtain⟨j,hj,rfl⟩:=Jd.1 hu
 rw[JG] at hs
 rcases JJ i j with h3 | h3 | h3
 ·have:=hs i j (by simpa using hi) (by simpa using hj) h3
  rw[Jv,Jv] at this
  omega
 ·subst h3; rfl
 ·have:=hs j i (by simpa using hj) (by simpa using hi) h3
  rw[Jv,Jv] at this
  omega
def Qoz(h:QbD l=true)(ht:t∈l):1<=t.id:=by
 obtain⟨i,hi,rfl⟩:=Jd.1 ht
 have:=Qbz h hi
 simp only[Tx.okB,Tx.hdB,Je,decide_eq_true_eq] at this
 omega
def QnY(h:QbD l=true)(hi:i<l.length):idT l l[i].id=i:=by
 rcases QI l l[i].id with hn | ⟨j,hj,h1,h2⟩
 ·have:=(Qj7 (l:=l) (a:=l[i].id)).2 (List.mem_map.2 ⟨l[i],Jh hi,rfl⟩)
  omega
 ·rw [h1]
  have hs:=Qef h
  rw[JG] at hs
  rcases JJ i j with h3 | h3 | h3
  ·have:=hs i j (by simpa using hi) (by simpa using hj) h3
   rw[Jv,Jv] at this
   omega
  ·omega
  ·have:=hs j i (by simpa using hj) (by simpa using hi) h3
   rw[Jv,Jv] at this
   omega
def Qo5(h:(QZ l e).2=0):QbD l=true/\e.okB=true:=by
 unfold QZ at h
 split at h
 ·simp at h
 rename_i q1
 split at h
 ·simp at h
 rename_i q2
 exact⟨by simpa using q1,by simpa using q2⟩
def QuG(h:(QZ l e).2=0)(ht:e.tx≠0):∃ i,∃ hi:i<l.length,idT l e.tx=i/\l[i].id=e.tx/\e.ptx=l[i].n/\(e.kind=2->e.ref∈l[i].l) /\
 (((e.kind=3\/e.kind=5)/\(QZ l e).1=Qkw l e.tx)\/((e.kind=1\/e.kind=2\/e.kind=4)/\(QZ l e).1=l.set i (QK (Qcz l[i] e)))):=by
 obtain⟨h1,h2⟩:=Qo5 h
 have hk:=QeW h2 ht
 unfold QZ at h |-
 rw[if_neg (by rw[h1]; decide),if_neg (by rw[h2]; decide),if_neg ht] at h |-
 rcases QI l e.tx with hn | ⟨i,hi,hid,he⟩
 ·rw[if_pos (by omega)] at h; simp at h
 rw[if_neg (by omega)] at h |-
 rw[hid,Jm,Qf l i hi] at h |-
 unfold QlW at h |-
 split at h
 ·simp at h
 rename_i q1
 refine⟨i,hi,rfl,he,by omega,fun q=>?_,?_⟩
 ·by_cases hr:e.ref ∈ l[i].l
  ·exact hr
  ·exact absurd (.inr ⟨q,hr⟩) q1
 rw[if_neg q1]
 split
 ·rename_i q; exact .inl ⟨q,rfl⟩
 ·rename_i q; exact .inr ⟨by omega,rfl⟩
def mem_remS:t∈Qkw l a ↔ t∈l/\t.id≠a:=by
 unfold Qkw Qd5
 rw[JR]
 simp
def Qpa{l:List Tx}{i:Nat}{t u:Tx}(h:t∈l.set i u):(∃ j,∃ hj:j<l.length,j≠i/\l[j]=t)\/(t=u/\i<l.length):=by
 obtain⟨j,hj,rfl⟩:=Jd.1 h
 rw[Jt] at hj
 by_cases hij:i=j
 ·subst hij; right; rw[JC]; exact⟨rfl,hj⟩
 ·left; rw[JH hij]; exact⟨j,hj,fun q=>hij q.symm,rfl⟩
def QoC{l:List Tx}(hi:i<l.length):u∈l.set i u:=by
 rw[Jd]; exact⟨i,by rw[Jt]; exact hi,by rw[JC]⟩
def QiF{l:List Tx}{i j:Nat}{u:Tx}(hj:j<l.length)(hij:i≠j):l[j]∈l.set i u:=by
 rw[Jd]; exact⟨j,by rw[Jt]; exact hj,by rw[JH hij]⟩
def QBo (hok:∀ t ∈ l,TxOk es t) (hall:∀ x ∈ es,0 < x.tx->(∃ t ∈ l,t.id = x.tx)\/QwI es x.tx) (h:(QZ l e).2 = 0):
 (∀ t∈(QZ l e).1,TxOk (es++[e]) t)/\∀ x∈es++[e],0<x.tx->(∃ t∈(QZ l e).1,t.id=x.tx)\/QwI (es++[e]) x.tx:=by
 obtain⟨h1,h2⟩:=Qo5 h
 have hend:∀ a,QwI es a->QwI (es++[e]) a:=fun a q=>(Qdr es e a).2 (.inl q)
 by_cases ht:e.tx=0
 ·have:(QZ l e).1 = l:=QiQ h ht
  rw[this]
  refine⟨fun t q=>(hok t q).other (by have:=Qoz h1 q; omega),fun x hx h0=>?_⟩
  rcases Ji.1 hx with hx | hx
  ·exact(hall x hx h0).imp id (hend _)
  ·rw[Jf.1 hx] at h0; omega
 obtain⟨i,hi,hid,he,hp,hr,hc⟩:=QuG h ht
 have hne:∀ t∈l,t≠l[i]->e.tx≠t.id:=fun t q q2 q3=>q2 (QsW h1 q (Jh hi) (by rw[he]; exact q3.symm))
 have ho:=hok l[i] (Jh hi)
 rcases hc with⟨hk,hc⟩ | ⟨hk,hc⟩
 ·rw [hc]
  refine⟨fun t q=>?_,fun x hx h0=>?_⟩
  ·obtain ⟨q1,q2⟩:=mem_remS.1 q
   exact(hok t q1).other fun q3=>q2 q3.symm
  ·by_cases hxe:x.tx = e.tx
   ·right; rw[hxe]; exact(Qdr _ _ _).2 (.inr ⟨rfl,hk⟩)
   ·rcases Ji.1 hx with hx | hx
    ·rcases hall x hx h0 with ⟨t,q1,q2⟩ | q
     ·exact .inl ⟨t,mem_remS.2 ⟨q1,by omega⟩,q2⟩
     ·exact .inr (hend _ q)
    ·rw[Jf.1 hx] at hxe; exact absurd rfl hxe
 ·rw [hc]
  have hnid:(Qcz l[i] e).id = l[i].id:=by       unfold Qcz; repeat' split
                                                all_goals rfl
  have htn:(QK (Qcz l[i] e)).id=e.tx:=by rw[QiE,hnid,he]
  refine⟨fun t q=>?_,fun x hx h0=>?_⟩
  ·rcases Qpa q with ⟨j,hj,hji,rfl⟩ | ⟨rfl,_⟩
   ·refine (hok _ (Jh hj)).other fun q=>hji ?_
    have e1:=QnY h1 hj
    rw[<- q,hid] at e1
    omega
   ·refine ⟨?_,?_,?_,?_⟩
    ·rw [htn,Qs9,QdV,if_pos rfl]
     unfold Qcz; repeat' split
     all_goals rfl
    ·rw [htn,Qta,QdT,if_pos rfl,<- he,<- ho.l]
     unfold Qcz
     repeat' split
     all_goals first | rfl | (exfalso; omega)
    ·rw [htn,Qdr]
     rintro(q | q)
     ·exact ho.ne (by rw[he]; exact q)
     ·omega
    ·rw [htn,Qtb,QpP]
     have hab:=ho.ab
     rw[he] at hab
     unfold Qcz
     split
     ·dsimp only; rw[hab]; exact⟨.inl,fun q=>q.elim id fun q=>by omega⟩
     split
     ·dsimp only; rw[hab]; exact⟨.inl,fun q=>q.elim id fun q=>by omega⟩
     ·dsimp only; exact⟨fun _=>.inr ⟨rfl,by omega⟩,fun _=>rfl⟩
  ·by_cases hxe:x.tx = e.tx
   ·exact .inl ⟨_,QoC hi,by rw[htn,hxe]⟩
   ·rcases Ji.1 hx with hx | hx
    ·rcases hall x hx h0 with ⟨t,q1,q2⟩ | q
     ·obtain ⟨j,hj,rfl⟩:=Jd.1 q1
      by_cases hij:i=j
      ·subst hij; rw[he] at q2; exact absurd q2.symm hxe
      ·exact .inl ⟨_,QiF hj hij,q2⟩
     ·exact .inr (hend _ q)
    ·rw[Jf.1 hx] at hxe; exact absurd rfl hxe
structure Cor(es:List E)(pg nx:Int)(tx:List Tx)(ix:List Rw)(L:Int->Int->Prop):Prop where
 pgr:1<=pg/\pg<=64
 ids:∀ e∈es,e.tx<nx
 ok:∀ t∈tx,TxOk es t
 all:∀ x∈es,0<x.tx->(∃ t∈tx,t.id=x.tx)\/QwI es x.tx
 len:(ix.length:Int)=pg
 row:∀ p:Nat,(p:Int)<pg->(ix.getD p Rw0).lsn<=Qd4 es p/\((∀ n,¬ L p n)->(ix.getD p Rw0).lsn=Qd4 es p)
 la:∀ p n,L p n->n=Qd4 es p
def Cor.weak(h:Cor es pg nx tx ix L)(hn:nx<=nx')(h1:∀ p n,L' p n->L p n)(h2:∀ p,(∀ n,¬ L' p n)->∀ n,¬ L p n):Cor es pg nx' tx ix L':=
 ⟨h.pgr,fun e he=>JS (h.ids e he) hn,h.ok,h.all,h.len,fun p hp=>⟨(h.row p hp).1,fun q=>(h.row p hp).2 (h2 p q)⟩,fun p n q=>h.la p n (h1 p n q)⟩
def QlV(h:(Qb2 ix e).2=0):(e.kind≠7/\(Qb2 ix e).1=ix)\/(e.kind=7/\e.okB=true/\e.c.pg<ix.length/\(Qb2 ix e).1=ix.set e.c.pg.toNat ⟨if e.ref > (ix.getD e.c.pg.toNat Rw0).lsn then e.ref else (ix.getD e.c.pg.toNat Rw0).lsn,(ix.getD e.c.pg.toNat Rw0).im,(ix.getD e.c.pg.toNat Rw0).at_⟩):=by
 unfold Qb2 at h |-
 split at h
 ·simp at h
 rename_i q1
 split at h
 ·simp at h
 rename_i q2
 rw[if_neg q1,if_neg q2]
 split at h
 ·rename_i q3; rw[if_pos q3]; exact .inl ⟨q3,rfl⟩
 rename_i q3
 rw[if_neg q3]
 split at h
 ·simp at h
 rename_i q4
 rw[if_neg q4]
 exact .inr ⟨by simpa using q3,by simpa using q2,by omega,rfl⟩
def Cor.add(hc:Cor es pg nx tx ix L)(he7:e.kind=7->e.ref=Qd4 es e.c.pg)(hlt:∀ x∈es,x.lsn<e.lsn)(h0:0<=e.lsn)(ht:(QZ tx e).2=0)(hr:(Qb2 ix e).2=0)(hn:nx<=nx')(hen:e.tx<nx')(h1:∀ p n,L' p n->((e.kind=1\/e.kind=2)/\p=e.c.pg/\n=e.lsn)\/(L p n/\((e.kind=1\/e.kind=2)->p≠e.c.pg)))(h2:∀ p,(∀ n,¬ L' p n)->((∀ n,¬ L p n)\/(e.kind=7/\p=e.c.pg))/\((e.kind=1\/e.kind=2)->p≠e.c.pg)):
 Cor (es++[e]) pg nx' (QZ tx e).1 (Qb2 ix e).1 L':=by
 obtain⟨t1,t2⟩:=QBo hc.ok hc.all ht
 refine⟨hc.pgr,fun x hx=>?_,t1,t2,?_,fun p hp=>?_,fun p n q=>?_⟩
 ·rcases Ji.1 hx with hx | hx
  ·exact JS (hc.ids x hx) hn
  ·rw[Jf.1 hx]; exact hen
 ·rcases QlV hr with ⟨_,q⟩ | ⟨_,_,_,q⟩<;>rw [q]
  ·exact hc.len
  ·rw[Jt]; exact hc.len
 ·obtain ⟨r1,r2⟩:=hc.row p hp
  rw[QcA]
  rcases QlV hr with⟨q7,q⟩ | ⟨q7,qo,ql,q⟩
  ·rw [q]
   split
   ·rename_i hx
    refine⟨Int.le_trans r1 (QyS es h0 p hlt),fun hq=>?_⟩
    exact absurd hx.2.symm ((h2 p hq).2 hx.1)
   ·refine ⟨r1,fun hq=>r2 ?_⟩
    rcases(h2 p hq).1 with h | h
    ·exact h
    ·exact absurd h.1 q7
  ·rw [if_neg (by omega),q]
   have hpg:=Qo3 qo (.inr (.inr q7))
   have hlen:=hc.len
   by_cases hpe:e.c.pg=p
   ·have e1:e.c.pg.toNat = p:=by omega
    rw[e1,Jj,List.getElem?_set_self (by omega)]
    dsimp only[Option.getD_some]
    have e2:=he7 q7
    rw[hpe] at e2
    rw[e2]
    split
    ·exact⟨JK _,fun _=>rfl⟩
    ·exact⟨r1,fun _=>by omega⟩
   ·have e1:e.c.pg.toNat ≠ p:=by omega
    rw[Jj,List.getElem?_set_ne e1,<- Jj]
    refine⟨r1,fun hq=>r2 ?_⟩
    rcases(h2 p hq).1 with h | h
    ·exact h
    ·exact absurd h.2.symm hpe
 ·rw [QcA]
  rcases h1 p n q with⟨q1,q2,q3⟩ | ⟨q1,q2⟩
  ·rw[if_pos ⟨q1,q2.symm⟩,q3]
  ·rw[if_neg (fun h=>q2 h.1 h.2.symm)]; exact hc.la p n q1
def LD(dl:List Dt)(p n:Int):Prop:=∃ d∈dl,d.pg=p/\d.last=n
structure EnOk(h:List E)(e:E):Prop where
 ptx:0<e.tx->e.ptx=Qj4 h e.tx
 ne:0<e.tx->¬ QwI h e.tx
 ab:0<e.tx->abE h e.tx->e.kind=2\/e.kind=5
 en:e.kind=5->abE h e.tx/\Qd3 h e.tx=[]
 ppg:(e.kind=1\/e.kind=2)->e.ppg=Qd4 h e.c.pg
 un:e.kind=2->e.ref∈Qd3 h e.tx/\∃ x∈h,x.lsn=e.ref/\x.kind=1/\x.tx=e.tx/\e.c=⟨x.c.pg,x.c.sl,x.c.a,x.c.b⟩/\∀ y∈h,y.lsn∈Qd3 h e.tx->e.ref<y.lsn->¬ (y.c.pg=e.c.pg/\y.c.sl=e.c.sl)
 ix:e.kind=7->e.ref=Qd4 h e.c.pg
 ck:e.kind=6->e.blob=[]\/∃ c,CkV c/\e.blob=QaR c/\Cor h c.pg c.nx c.tx c.ix (LD c.dl)
def LogOk(es:List E):Prop:=∀ i,i<es.length->EnOk (es.take i) (es.getD i E0)
def LogOk.nil:LogOk []:=fun i h=>by simp at h
def LogOk.snoc(h:LogOk es)(he:EnOk es e):LogOk (es++[e]):=fun i hi=>by
 rw[Ja,Jy] at hi
 rcases J4 i es.length with hl | hl
 ·rw [List.take_append_of_le_length (by omega),Jj,JU hl,<- Jj]
  exact h i hl
 ·obtain rfl:i = es.length:=by omega
  rw[J9,Jj,List.getElem?_append_right (JB _),Nat.sub_self]
  exact he
def LogOk.take(h:LogOk es)(j:Nat):LogOk (es.take j):=fun i hi=>by
 rw[Jr] at hi
 have:=h i (by omega)
 rw[List.take_take,Nat.min_eq_left (by omega),Jj,List.getElem?_take_of_lt (by omega),<- Jj]
 exact this
def LkK(k:Kn)(p n:Int):Prop:=(∃ d∈k.la,d.pg=p/\d.last=n)\/∃ f∈k.pl.fs,f.dirty=true/\f.pg.id=p/\f.pg.lsn=n
structure KI(k:Kn):Prop where
 lg:lgB k.lg=true
 f:k.lg.f=1
 log:LogOk k.lg.es
 cor:Cor k.lg.es k.pg k.nx k.tx k.ix (LkK k)
 fr:∀ f∈k.pl.fs,f.pg.lsn=Qd4 k.lg.es f.pg.id
def Qf1(h:lgB x=true)(hi:i<x.es.length):(x.es.getD i E0).lsn=x.f+i/\(x.es.getD i E0).okB=true:=by
 unfold lgB at h
 rw[Je,Jp] at h
 have:=h.2 i (Js.2 hi)
 unfold lgC at this
 simpa using this
def QnV(h:lgB x=true)(hf:x.f=1)(he:e∈x.es):1<=e.lsn/\e.lsn<=x.end_/\e.okB=true:=by
 obtain⟨i,hi,rfl⟩:=Jd.1 he
 have:=Qf1 h hi
 rw[Qf _ _ hi] at this
 unfold Lg.end_
 exact⟨by omega,by omega,this.2⟩
def QyN(h:lgB x=true)(ha:a∈x.es)(hb:b∈x.es)(he:a.lsn=b.lsn):a=b:=by
 obtain⟨i,hi,rfl⟩:=Jd.1 ha
 obtain⟨j,hj,rfl⟩:=Jd.1 hb
 have h1:=(Qf1 h hi).1
 have h2:=(Qf1 h hj).1
 rw[Qf _ _ hi] at h1
 rw[Qf _ _ hj] at h2
 obtain rfl:i=j:=by omega
 rfl
def Qzb(h:(QbA x n).2=0):(QbA x n).1∈x.es/\(QbA x n).1.lsn=n:=by
 obtain⟨h1,h2,h3,h4,_⟩:=Qn3 h
 refine⟨?_,h4⟩
 unfold QbA
 rw[if_neg (by rw[h1]; decide),if_neg (by omega)]
 dsimp only
 unfold Lg.end_ at h3
 rw[Qf _ _ (by omega)]
 exact Jh _
def QCY(h:lgB x=true)(he:e∈x.es):QbA x e.lsn=(e,0):=by
 obtain⟨i,hi,rfl⟩:=Jd.1 he
 have h1:=(Qf1 h hi).1
 rw[Qf _ _ hi] at h1
 unfold QbA
 rw[if_neg (by rw[h]; decide),if_neg (by unfold Lg.end_; omega),h1,show(x.f+i-x.f).toNat=i by omega,Qf _ _ hi]
def Qur(es:List E)(a n:Int)(h:n∈Qd3 es a):∃ x∈es,x.lsn=n/\x.kind=1/\x.tx=a:=by
 revert h
 refine QeH (P:=fun es=>n∈Qd3 es a->∃ x∈es,x.lsn=n/\x.kind=1/\x.tx=a) (fun h=>by simp[Qd3] at h) (fun l e ih h=>?_) es
 have up:(∃ x∈l,x.lsn=n/\x.kind=1/\x.tx=a)->∃ x∈l++[e],x.lsn=n/\x.kind=1/\x.tx=a:=fun⟨x,q1,q2⟩=>⟨x,Jl _ q1,q2⟩
 rw[QdT] at h
 split at h
 ·rename_i ht
  split at h
  ·rename_i hk
   rcases Ji.1 h with h | h
   ·exact up (ih h)
   ·exact⟨e,by simp,(Jf.1 h).symm,hk,ht⟩
  split at h
  ·exact up (ih (JR.1 h).1)
  ·exact up (ih h)
 ·exact up (ih h)
def KI.head(hk:KI k)(v:kB k=true)(h0:0<=p)(hp:p<k.pg):QfI k p=Qd4 k.lg.es p:=by
 unfold QfI
 rw[if_pos ⟨v,h0,hp⟩]
 unfold Qy7
 split
 ·rename_i hi
  rcases Qa6 k.pl.fs p with hn | ⟨i,hil,hid,he⟩
  ·omega
  rw[hid,Jm]
  rw[Qf _ _ hil] at he |-
  rw[hk.fr _ (Jh hil),he]
 rename_i hi
 obtain⟨d,b,hl⟩:∃ d b,(d,b)=Qbl k.la p:=⟨(Qbl k.la p).1,(Qbl k.la p).2,rfl⟩
 rw[<- hl]
 cases b
 ·rw [if_neg (show ¬ (false = true) from fun h=>by cases h)]
  obtain⟨m,rfl⟩:∃ m:Nat,p=m:=⟨p.toNat,by omega⟩
  rw[Jm]
  refine(hk.cor.row m hp).2 fun n hL=>?_
  rcases hL with⟨x,q1,q2,_⟩ | ⟨f,q1,_,q2,_⟩
  ·exact Qj5 hl x q1 q2
  ·obtain ⟨j,hj,rfl⟩:=Jd.1 q1
   obtain⟨i,_,h2,_⟩:=Qpl (l:=k.pl.fs) (a:=(m:Int)) ⟨j,hj,by rw[Qf _ _ hj]; exact q2.symm⟩
   omega
 ·rw [if_pos rfl]
  obtain⟨q1,q2⟩:=Ql9 hl
  exact hk.cor.la p d.last (.inl ⟨d,q1,q2,rfl⟩)
def QnZ(h:0<=idT l a):Qbh l a∈l/\(Qbh l a).id=a:=by
 rcases QI l a with hn | ⟨i,hi,hid,he⟩
 ·omega
 ·rw[Qee hid,Qf l i hi]; exact⟨Jh hi,he⟩
def QCj{e:E}(h:e.okB=true)(hk:e.kind=1\/e.kind=2):1<=e.tx:=by
 unfold E.okB at h
 rw[Je] at h
 have h2:=h.2
 unfold E.kindB txB at h2
 split at h2
 ·simp only[Je,decide_eq_true_eq] at h2; omega
 split at h2
 ·simp only[Je,decide_eq_true_eq] at h2; omega
 ·omega
def QuB{e:E}(h:e.okB=true):1<=e.lsn:=by
 unfold E.okB at h
 simp only[Je,decide_eq_true_eq] at h
 omega
structure AddF(k:Kn)(e e':E):Prop where
 lt:∀ x∈k.lg.es,x.lsn<e'.lsn
 pos:1<=e'.lsn
 nx:e'.tx<k.nx
 tx:0<e'.tx->Qbh k.tx e'.tx∈k.tx/\(Qbh k.tx e'.tx).id=e'.tx/\TxOk k.lg.es (Qbh k.tx e'.tx)/\e'.ptx=(Qbh k.tx e'.tx).n
def AddOk.facts(hk:KI k)(ha:AddOk k e e'):AddF k e e':=by
 obtain⟨v,s,ho,hl,hn,hnt,hnr,h0,hi,hp1,hp2⟩:=ha
 have hv:=Qmb v
 have hd:=QaG hk.lg
 simp only[Lg.hd] at hd
 have htx:0<e'.tx->Qbh k.tx e'.tx∈k.tx/\(Qbh k.tx e'.tx).id=e'.tx/\TxOk k.lg.es (Qbh k.tx e'.tx)/\e'.ptx=(Qbh k.tx e'.tx).n:=fun q=>by
  rw[s.2.1] at q
  obtain⟨i,hil,hid,hp⟩:=hi q
  obtain⟨g1,g2⟩:=QnZ (l:=k.tx) (a:=e'.tx) (by rw[s.2.1,hid]; omega)
  exact⟨g1,g2,hk.cor.ok _ g1,by rw[hp,s.2.1,Qee hid]⟩
 refine⟨fun x hx=>?_,?_,?_,htx⟩
 ·have:=(QnV hk.lg hk.f hx).2.1
  omega
 ·have:=hk.f
  unfold Lg.end_ at hl
  omega
 ·by_cases q:0 < e'.tx
  ·obtain ⟨g1,g2,_⟩:=htx q
   obtain⟨j,hj,hje⟩:=Jd.1 g1
   have:=(QyZ v).ids j hj
   rw[Qf _ _ hj,hje,g2] at this
   exact this
  ·have:=hv.2.1
   omega
def KI.addP(hk:KI k)(ha:AddOk k e e')(he:EnOk k.lg.es e')(e1:k'.lg=(k.add e').lg)(e2:k'.tx=(k.add e').tx)(e3:k'.ix=(k.add e').ix)(e4:k'.pg=k.pg)(e5:k'.nx=k.nx)(h1:∀ p n,LkK k' p n->((e'.kind=1\/e'.kind=2)/\p=e'.c.pg/\n=e'.lsn)\/(LkK k p n/\((e'.kind=1\/e'.kind=2)->p≠e'.c.pg)))(h2:∀ p,(∀ n,¬ LkK k' p n)->((∀ n,¬ LkK k p n)\/(e'.kind=7/\p=e'.c.pg))/\((e'.kind=1\/e'.kind=2)->p≠e'.c.pg))(hf:∀ f∈k'.pl.fs,f.pg.lsn=Qd4 (k.lg.es++[e']) f.pg.id):KI k':=by
 have F:=ha.facts hk
 have hl:=ha.lgB
 obtain⟨v,s,ho,hle,hn,hnt,hnr,h0,hi,hp1,hp2⟩:=ha
 have hes:k'.lg.es=k.lg.es++[e']:=by rw[e1]; rfl
 refine⟨by rw[e1]; exact hl,by rw[e1]; exact hk.f,by rw[hes]; exact hk.log.snoc he,?_,by rw[hes]; exact hf⟩
 rw[hes,e2,e3,e4,e5]
 exact hk.cor.add he.ix F.lt (by have:=F.pos; omega) hnt hnr (JK _) F.nx h1 h2
def Cor.same(h:Cor es pg nx tx ix L)(hn:nx<=nx')(h1:∀ t∈tx',TxOk es t)(h2:∀ x∈es,0<x.tx->(∃ t∈tx,t.id=x.tx)->∃ t∈tx',t.id=x.tx):Cor es pg nx' tx' ix L:=
 ⟨h.pgr,fun e he=>JS (h.ids e he) hn,h1,fun x hx h0=>(h.all x hx h0).imp (h2 x hx h0) id,h.len,h.row,h.la⟩
def TxOk.alike(h:TxOk es t)(h1:u.id=t.id)(h2:u.n=t.n)(h3:u.l=t.l)(h4:u.st=3 ↔ t.st=3):TxOk es u:=
 ⟨by rw[h2,h1]; exact h.n,by rw[h3,h1]; exact h.l,by rw[h1]; exact h.ne,by rw[h4,h1]; exact h.ab⟩
def Cor.setT(h:Cor es pg nx tx ix L)(hi:i<tx.length)(h1:u.id=tx[i].id)(h2:u.n=tx[i].n)(h3:u.l=tx[i].l)(h4:u.st=3 ↔ tx[i].st=3):Cor es pg nx (tx.set i u) ix L:=
 h.same (JK _) (fun t q=>by
  rcases Qpa q with⟨j,hj,_,rfl⟩ | ⟨rfl,_⟩
  ·exact h.ok _ (Jh hj)
  ·exact(h.ok _ (Jh hi)).alike h1 h2 h3 h4) fun x _ _ ⟨t,q1,q2⟩=>by
  obtain⟨j,hj,rfl⟩:=Jd.1 q1
  by_cases hij:i=j
  ·subst hij; exact⟨u,QoC hi,by rw[h1]; exact q2⟩
  ·exact⟨tx[j],QiF hj hij,q2⟩
def KI.txs(hk:KI k)(h:Cor k.lg.es k.pg k.nx tx' k.ix (LkK k)):KI ⟨k.pg,k.nx,k.lg,k.pl,k.lk,tx',k.ix,k.la⟩:=⟨hk.lg,hk.f,hk.log,h,hk.fr⟩
def Qtf(h:(Qib l a).2=0):∃ i,∃ hi:i<l.length,(Qib l a).1=l.set i { l[i] with s:=l[i].s++[l[i].n] }:=by
 unfold Qib at h |-
 split at h
 ·rename_i q; exact absurd h q
 rename_i q1
 split at h
 ·simp at h
 rename_i q2
 rw[if_neg q1,if_neg q2]
 obtain⟨_,i,hi,hid,_,hg⟩:=QbR (by omega:(Qu l a).2=0)
 exact⟨i,hi,by rw[hid,hg,Jm]⟩
def Qwn(h:(Qir l a b).2=0):∃ i,∃ hi:i<l.length,∃ u,(Qir l a b).1=l.set i u/\u.id=l[i].id/\u.n=l[i].n/\u.l=l[i].l/\(u.st=3 ↔ l[i].st=3):=by
 unfold Qir at h |-
 split at h
 ·rename_i q; exact absurd h q
 rename_i q1
 split at h
 ·simp at h
 rename_i q2
 rw[if_neg q1,if_neg q2]
 have hst:=(Qjb (by omega:(Qu l a).2=0)).1
 obtain⟨_,i,hi,hid,_,hg⟩:=QbR (by omega:(Qu l a).2=0)
 rw[hg] at hst
 rw[hid,hg,Jm]
 split
 ·exact⟨i,hi,_,rfl,rfl,rfl,rfl,by dsimp only; omega⟩
 ·exact⟨i,hi,_,rfl,rfl,rfl,rfl,Iff.rfl⟩
def Qrx(h:(Qaj l a).2=0):(Qaj l a).1=QD5 l ⟨a,1,0,0,[],[]⟩:=by
 unfold Qaj at h |-
 repeat' split at h
 all_goals first | (simp at h; done) | skip
 rename_i q1 q2 q3 q4
 rw[if_neg q1,if_neg q2,if_neg q3,if_neg q4]
def mem_insT:u∈QD5 l t ↔ u=t\/u∈l:=by
 unfold QD5
 rw[Ji,Kb]
 constructor
 ·rintro (h | h | h)
  ·exact .inr (JP h)
  ·exact .inl h
  ·exact .inr (JZ h)
 ·rintro (h | h)
  ·exact .inr (.inl h)
  ·rw [<- List.take_append_drop (QCa l t.id) l,Ji] at h
   exact h.imp id .inr
def Cor.beginT(h:Cor es pg nx tx ix L)(hn:nx<=nx')(hb:(Qaj tx a).2=0)(hf:∀ x∈es,x.tx≠a):Cor es pg nx' (Qaj tx a).1 ix L:=by
 rw[Qrx hb]
 exact h.same hn (fun t q=>by
  rcases mem_insT.1 q with rfl | q
  ·exact TxOk.fresh hf
  ·exact h.ok t q) fun x _ _ ⟨t,q1,q2⟩=>⟨t,mem_insT.2 (.inr q1),q2⟩
def Qbk(es:List E)(e:E)(p:Int)(h:¬ ((e.kind=1\/e.kind=2)/\e.c.pg=p)):Qd4 (es++[e]) p=Qd4 es p:=by rw[QcA,if_neg h]
def KI.fin(hk:KI k)(ha:AddOk k e e')(h3:e.kind=3\/e.kind=4\/e.kind=5)(hf:QGc k e):KI (k.add e'):=by
 have F:=ha.facts hk
 have s:=ha.2.1
 have ho:=ha.2.2.1
 have hk':e'.kind=3\/e'.kind=4\/e'.kind=5:=by rw[s.1]; exact h3
 have hn:¬ (e'.kind=1\/e'.kind=2):=by omega
 obtain⟨f1,f2,f3⟩:=hf
 rw[<- s.2.1,<- s.1] at *
 refine hk.addP ha ⟨fun q=>?_,fun q=>?_,fun q h=>?_,fun q=>?_,fun q=>absurd q hn,fun q=>by omega,fun q=>by omega,fun q=>by omega⟩ rfl rfl rfl rfl rfl (fun p n q=>.inr ⟨q,fun h=>absurd h hn⟩) (fun p q=>⟨.inl q,fun h=>absurd h hn⟩) (fun f q=>by rw[Qbk _ _ _ fun h=>hn h.1]; exact hk.fr f q)
 ·obtain ⟨_,g2,g3,g4⟩:=F.tx q
  rw[g4,g3.n,g2]
 ·obtain ⟨_,g2,g3,_⟩:=F.tx q
  have:=g3.ne
  rwa [g2] at this
 ·obtain ⟨_,g2,g3,_⟩:=F.tx q
  have:=g3.ab
  rw[g2] at this
  by_cases h5:e'.kind=5
  ·exact .inr h5
  ·exact absurd (this.2 h) (f2 (by omega))
 ·obtain ⟨i1,i2⟩:=f3 q
  obtain⟨g1,g2⟩:=QnZ f1
  have g3:=hk.cor.ok _ g1
  have h1:=g3.ab
  have h2:=g3.l
  rw[g2] at h1 h2
  exact⟨h1.1 i1,by rw[<- h2]; exact i2⟩
def CkP.ok(hk:KI k)(h:CkP k s):s=[]\/∃ c,CkV c/\s=QaR c/\Cor k.lg.es c.pg c.nx c.tx c.ix (LD c.dl):=by
 rcases h with h | ⟨c,h1,h2,h3⟩
 ·exact .inl h
 refine .inr ⟨c,h2,h3,?_⟩
 rw[h1.pg,h1.nx,h1.tx,h1.ix]
 refine hk.cor.weak (JK _) (fun p n q=>?_) fun p q n hL=>?_
 ·obtain ⟨d,q1,q2,q3⟩:=q
  rcases h1.dl d q1 with⟨x,x1,x2,x3⟩ | ⟨f,x1,x2,x3,x4⟩
  ·exact .inl ⟨x,x1,by omega,by omega⟩
  ·exact .inr ⟨f,x1,x2,by omega,by omega⟩
 ·rcases hL with ⟨d,x1,x2,x3⟩ | ⟨f,x1,x2,x3,x4⟩
  ·obtain ⟨d',y1,y2⟩:=h1.la d x1
   exact q _ ⟨d',y1,by omega,rfl⟩
  ·obtain ⟨d',y1,y2⟩:=h1.fs f x1 x2
   exact q _ ⟨d',y1,by omega,rfl⟩
def KI.ckpt(hk:KI k)(ha:AddOk k e e')(h6:e.kind=6)(hc:CkP k e.blob):KI (k.add e'):=by
 have F:=ha.facts hk
 have s:=ha.2.1
 have ho:=ha.2.2.1
 have hk':e'.kind=6:=by rw[s.1]; exact h6
 have hn:¬ (e'.kind=1\/e'.kind=2):=by omega
 have htx:e'.tx=0:=by
  by_cases h:e'.tx=0
  ·exact h
  ·have:=QeW ho h; omega
 exact hk.addP ha ⟨fun q=>by omega,fun q=>by omega,fun q=>by omega,fun q=>by omega,fun q=>absurd q hn,fun q=>by omega,fun q=>by omega,fun _=>by rw[s.2.2.2.2]; exact hc.ok hk⟩ rfl rfl rfl rfl rfl (fun p n q=>.inr ⟨q,fun h=>absurd h hn⟩) (fun p q=>⟨.inl q,fun h=>absurd h hn⟩) (fun f q=>by rw[Qbk _ _ _ fun h=>hn h.1]; exact hk.fr f q)
def Qxf(h:(Qkv p x).2=0):plB p=true/\∃ i,i<p.fs.length/\idF p.fs x.id=(i:Nat)/\(Qkv p x).1=⟨p.size,p.fs.set i (QrK (p.fs.getD i Fm0) x),p.hand⟩:=by
 unfold Qkv at h |-
 split at h
 ·simp at h
 rename_i q1
 split at h
 ·rename_i q; exact absurd h q
 rename_i q2
 split at h
 ·simp at h
 rename_i q3
 split at h
 ·simp at h
 rename_i q4
 rw[if_neg q1,if_neg q2,if_neg q3,if_neg q4]
 rcases Qa6 p.fs x.id with hn | ⟨i,hi,hid,_⟩
 ·omega
 ·exact⟨by simpa using q1,i,hi,hid,by rw[hid,Jm]⟩
def Qj1{l:List Fm}{i:Nat}{t u:Fm}(h:t∈l.set i u):(∃ j,∃ hj:j<l.length,j≠i/\l[j]=t)\/(t=u/\i<l.length):=by
 obtain⟨j,hj,rfl⟩:=Jd.1 h
 rw[Jt] at hj
 by_cases hij:i=j
 ·subst hij; right; rw[JC]; exact⟨rfl,hj⟩
 ·left; rw[JH hij]; exact⟨j,hj,fun q=>hij q.symm,rfl⟩
def Qxx{l:List Fm}(hi:i<l.length):u∈l.set i u:=by
 rw[Jd]; exact⟨i,by rw[Jt]; exact hi,by rw[JC]⟩
def QiG{l:List Fm}{i j:Nat}{u:Fm}(hj:j<l.length)(hij:i≠j):l[j]∈l.set i u:=by
 rw[Jd]; exact⟨j,by rw[Jt]; exact hj,by rw[JH hij]⟩
def QCW(h:(Qe4 p a).2=true):plB p=true/\∃ i,∃ hi:i<p.fs.length,idF p.fs a=(i:Nat)/\(p.fs[i]).pg.id=a/\(Qe4 p a).1=(p.fs[i]).pg:=by
 unfold Qe4 at h |-
 split at h
 ·simp at h
 rename_i q
 rw[if_neg q]
 rcases Qb6 p a with hn | ⟨hp,i,hi,h1,h2,h3⟩
 ·omega
 ·rw [Qf _ _ hi] at h3
  exact⟨hp,i,hi,h2,h3,by rw[h1,Jm,Qf _ _ hi]⟩
def KI.setE(hk:KI k)(ha:AddOk k e e')(h12:e.kind=1\/e.kind=2)(hs:QHz k e)(hu:(Qkv k.pl (Qeh k.pl e')).2=0):KI (k.set e'):=by
 have F:=ha.facts hk
 obtain⟨v,s,ho,hl,hn,hnt,hnr,h0,hi,hp1,hp2⟩:=id ha
 obtain⟨s1,s2,s3,s4,s5⟩:=s
 have hk':e'.kind=1\/e'.kind=2:=by rw[s1]; exact h12
 have n5:e'.kind≠5:=by omega
 have n7:e'.kind≠7:=by omega
 have n6:e'.kind≠6:=by omega
 obtain⟨f1,f2,f3,f4,f5⟩:=hs
 rw[<- s4] at f4 f5
 obtain⟨hpl,i,hil,hid,hpg,hgp⟩:=QCW f4
 have hsp:(Qeh k.pl e').id=e'.c.pg:=by
  show(Qe4 k.pl e'.c.pg).1.id=_
  rw[hgp,hpg]
 obtain⟨_,j,hj,hjd,hup⟩:=Qxf hu
 rw[hsp,hid] at hjd
 obtain rfl:i=j:=by omega
 have hpos:0<e'.tx:=by
  have:=QCj ho hk'
  omega
 obtain⟨g1,g2,g3,g4⟩:=F.tx hpos
 have hrng:0<=e'.c.pg/\e'.c.pg<k.pg:=by
  have h1:=Qn8 (QlB hpl hil)
  have h2:=((QyZ v).frs i hil).1
  rw[Qf _ _ hil] at h1 h2
  omega
 have hother:∀ j,(hj:j<k.pl.fs.length)->j≠i->(k.pl.fs[j]).pg.id≠e'.c.pg:=fun j hj hji q=>by
  have:=Qup hpl hj
  rw[Qf _ _ hj,q,hid] at this
  omega
 have hfs:(k.set e').pl.fs=k.pl.fs.set i (QrK (k.pl.fs.getD i Fm0) (Qeh k.pl e')):=by
  show(Qkv k.pl (Qeh k.pl e')).1.fs=_
  rw[hup]
 have hup1:(QrK (k.pl.fs.getD i Fm0) (Qeh k.pl e')).dirty=true:=rfl
 have hup2:(QrK (k.pl.fs.getD i Fm0) (Qeh k.pl e')).pg.id=e'.c.pg:=hsp
 have hup3:(QrK (k.pl.fs.getD i Fm0) (Qeh k.pl e')).pg.lsn=e'.lsn:=rfl
 generalize QrK (k.pl.fs.getD i Fm0) (Qeh k.pl e')=u at *
 refine hk.addP ha ⟨fun _=>by rw[g4,g3.n,g2],fun _=>?_,fun _ h=>?_,fun q=>absurd q n5,fun _=>?_,fun q=>?_,fun q=>absurd q n7,fun q=>absurd q n6⟩ rfl rfl rfl rfl rfl (fun p n q=>?_) (fun p q=>?_) (fun f q=>?_)
 ·have:=g3.ne; rwa [g2] at this
 ·have:=g3.ab
  rw[g2] at this
  have h3:=this.2 h
  rcases h12 with q | q
  ·have:=f2 q; rw[<- s2] at this; omega
  ·exact .inl (by omega)
 ·rw [hp1 h12,<- s4]
  exact hk.head v hrng.1 hrng.2
 ·rw [s1] at q
  obtain⟨_,y,hla,hy1,hy2⟩:=f3 q
  rw[<- s2] at hla
  obtain⟨m,hm,hm1,hm2,hm3⟩:=hla
  have hgl:=g3.l
  rw[g2] at hgl
  obtain⟨ym,yl⟩:=Qzb hm1
  rw[<- hm2] at ym yl
  have hmem:y.lsn∈Qd3 k.lg.es e'.tx:=by
   rw[<- hgl,yl,Jj,JV hm]
   exact Jh hm
  obtain⟨x,x1,x2,x3,x4⟩:=Qur _ _ _ hmem
  obtain rfl:=QyN hk.lg x1 ym x2
  have hr:e'.ref=x.lsn:=by rw[s3]; exact hy1
  have hc':e'.c=⟨x.c.pg,x.c.sl,x.c.a,x.c.b⟩:=by rw[s4]; exact hy2
  refine⟨by rw[hr]; exact hmem,x,x1,hr.symm,x3,x4,hc',fun z z1 z2 z3 z4=>?_⟩
  rw[<- hgl] at z2
  obtain⟨w,hw,hwz⟩:=Jd.1 z2
  have hasc:(Qbh k.tx e'.tx).l.Pairwise (·<·):=by
   obtain⟨q1,q2,q3⟩:=Jd.1 g1
   have:=Qbz (Qmb v).2.2.2.2.1 q2
   rw[q3] at this
   exact QuC this
  have hwm:m<w:=by
   rcases JJ m w with h | h | h
   ·exact h
   ·subst h
    rw[Qf _ _ hm] at yl
    omega
   ·have:=(JG.1 hasc) w m hw hm h
    rw[Qf _ _ hm] at yl
    omega
  have hgz:=QCY hk.lg z1
  have:=hm3 w hwm hw
  rw[Qf _ _ hw,hwz,hgz] at this
  rw[hc'] at z4
  exact this rfl z4
 ·unfold LkK at q
  rw[hfs] at q
  rcases q with⟨d,d1,d2,d3⟩ | ⟨f,d1,d2,d3,d4⟩
  ·refine .inr ⟨.inl ⟨d,d1,d2,d3⟩,fun _=>?_⟩
   have hlk:=((QyZ v).frs i hil).2
   rw[Qf _ _ hil,hpg] at hlk
   obtain⟨b,hb⟩:∃ b,(b,false)=Qbl k.la e'.c.pg:=⟨(Qbl k.la e'.c.pg).1,by rw[<- hlk]⟩
   rw[<- d2]
   exact Qj5 hb d d1
  ·rcases Qj1 d1 with ⟨j,hj,hji,rfl⟩ | ⟨rfl,_⟩
   ·exact .inr ⟨.inr ⟨_,Jh hj,d2,d3,d4⟩,fun _=>by rw[<- d3]; exact hother j hj hji⟩
   ·exact .inl ⟨hk',by rw[<- d3,hup2],by rw[<- d4,hup3]⟩
 ·have hpe:p ≠ e'.c.pg:=fun h=>q e'.lsn (.inr ⟨u,by rw [hfs]; exact Qxx hil,hup1,by rw [hup2,h],hup3⟩)
  refine⟨.inl fun n hL=>?_,fun _=>hpe⟩
  rcases hL with⟨d,d1,d2,d3⟩ | ⟨f,d1,d2,d3,d4⟩
  ·exact q n (.inl ⟨d,d1,d2,d3⟩)
  ·obtain ⟨j,hj,rfl⟩:=Jd.1 d1
   by_cases hji:i=j
   ·subst hji; omega
   ·exact q n (.inr ⟨_,by rw[hfs]; exact QiG hj hji,d2,d3,d4⟩)
 ·rw [hfs] at q
  rcases Qj1 q with⟨j,hj,hji,rfl⟩ | ⟨rfl,_⟩
  ·rw [Qbk _ _ _ fun h=>hother j hj hji h.2.symm]
   exact hk.fr _ (Jh hj)
  ·rw[QcA,if_pos ⟨hk',hup2.symm⟩,hup3]
def Qi2(h:(QaV p a n).2=0)(hi:i<p.fs.length)(hid:idF p.fs a=(i:Nat))(hn:(p.fs.getD i Fm0).pg.lsn=n):((p.fs.getD i Fm0).dirty=false/\(QaV p a n).1=p)\/∃ u:Fm,u.pg=(p.fs.getD i Fm0).pg/\u.dirty=false/\(QaV p a n).1=⟨p.size,p.fs.set i u,p.hand⟩:=by
 unfold QaV at h |-
 split at h
 ·simp at h
 rename_i q1
 split at h
 ·simp at h
 rename_i q2
 split at h
 ·simp at h
 rename_i q3
 rw[if_neg q1,if_neg q2,if_neg q3,hid,Jm]
 split
 ·rename_i q4; exact .inl ⟨by simpa using q4,rfl⟩
 ·refine .inr ⟨_,?_,?_,rfl⟩<;>unfold Qfe<;>rw[if_pos hn]
def KI.wrt(hk:KI k)(ha:AddOk k e e')(h7:e.kind=7)(hw:QHY k e):KI (k.wrt e'):=by
 have F:=ha.facts hk
 obtain⟨v,s,ho,hl,hn,hnt,hnr,h0,hi,hp1,hp2⟩:=id ha
 obtain⟨s1,s2,s3,s4,s5⟩:=s
 have hk':e'.kind=7:=by rw[s1]; exact h7
 have hn:¬ (e'.kind=1\/e'.kind=2):=by omega
 have n5:e'.kind≠5:=by omega
 have n2:e'.kind≠2:=by omega
 have n6:e'.kind≠6:=by omega
 have htx:¬ 0<e'.tx:=fun h=>by have:=QeW ho (by omega); omega
 obtain⟨i,hil,hid,hls,hcl⟩:=hw
 rw[<- s4,<- s3] at hcl
 rw[<- s4] at hid
 rw[<- s3] at hls
 have hpl:=(Qmb v).2.2.2.1
 have hpg:(k.pl.fs.getD i Fm0).pg.id=e'.c.pg:=by
  rcases Qa6 k.pl.fs e'.c.pg with q | ⟨j,_,q1,q2⟩
  ·omega
  ·obtain rfl:j = i:=by omega
   exact q2
 have hother:∀ j,(hj:j<k.pl.fs.length)->j≠i->(k.pl.fs[j]).pg.id≠e'.c.pg:=fun j hj hji q=>by
  have:=Qup hpl hj
  rw[Qf _ _ hj,q,hid] at this
  omega
 have hmi:k.pl.fs.getD i Fm0∈k.pl.fs:=by rw[Qf _ _ hil]; exact Jh hil
 have hfs:(k.wrt e').pl.fs=(QaV k.pl e'.c.pg e'.ref).1.fs:=rfl
 have hsub:∀ f∈(k.wrt e').pl.fs,∃ g∈k.pl.fs,g.pg=f.pg/\(f.dirty=true->g=f):=fun f hf=>by
  rw[hfs] at hf
  rcases Qi2 hcl hil hid hls with⟨_,q⟩ | ⟨u,u1,u2,q⟩
  ·rw[q] at hf; exact⟨f,hf,rfl,fun _=>rfl⟩
  ·rw [q] at hf
   rcases Qj1 hf with⟨j,hj,_,rfl⟩ | ⟨rfl,_⟩
   ·exact⟨_,Jh hj,rfl,fun _=>rfl⟩
   ·exact⟨_,hmi,u1.symm,fun h=>by rw[u2] at h; cases h⟩
 have hsup:∀ f∈k.pl.fs,f.dirty=true->f.pg.id≠e'.c.pg->f∈(k.wrt e').pl.fs:=fun f hf hd hne=>by
  rw[hfs]
  rcases Qi2 hcl hil hid hls with⟨_,q⟩ | ⟨u,u1,u2,q⟩
  ·rw[q]; exact hf
  ·rw [q]
   obtain⟨j,hj,rfl⟩:=Jd.1 hf
   by_cases hji:i=j
   ·subst hji; rw[Qf _ _ hil] at hpg; exact absurd hpg hne
   ·exact QiG hj hji
 refine hk.addP ha ⟨fun q=>absurd q htx,fun q=>absurd q htx,fun q=>absurd q htx,fun q=>absurd q n5,fun q=>absurd q hn,fun q=>absurd q n2,fun _=>?_,fun q=>absurd q n6⟩ rfl rfl rfl rfl rfl (fun p n q=>.inr ⟨?_,fun h=>absurd h hn⟩) (fun p q=>⟨?_,fun h=>absurd h hn⟩) (fun f q=>?_)
 ·rw[<- hls,hk.fr _ hmi,hpg]
 ·rcases q with q | ⟨f,d1,d2,d3,d4⟩
  ·exact .inl q
  ·obtain ⟨g,g1,g2,g3⟩:=hsub f d1
   obtain rfl:=g3 d2
   exact .inr ⟨g,g1,d2,d3,d4⟩
 ·by_cases hpe:p = e'.c.pg
  ·exact .inr ⟨hk',hpe⟩
  ·refine .inl fun n hL=>?_
   rcases hL with hL | ⟨f,d1,d2,d3,d4⟩
   ·exact q n (.inl hL)
   ·exact q n (.inr ⟨f,hsup f d1 d2 (by rw[d3]; exact hpe),d2,d3,d4⟩)
 ·obtain ⟨g,g1,g2,_⟩:=hsub f q
  rw[Qbk _ _ _ fun h=>hn h.1,<- g2]
  exact hk.fr g g1
def KI.pool(hk:KI k)(h1:∀ f∈p.fs,∃ g∈k.pl.fs,g.pg=f.pg/\g.dirty=f.dirty)(h2:∀ g∈k.pl.fs,g.dirty=true->∃ f∈p.fs,f.pg=g.pg/\f.dirty=true):KI ⟨k.pg,k.nx,k.lg,p,k.lk,k.tx,k.ix,k.la⟩:=by
 refine⟨hk.lg,hk.f,hk.log,hk.cor.weak (JK _) (fun q n h=>?_) (fun q h n hL=>?_),fun f hf=>?_⟩
 ·rcases h with h | ⟨f,d1,d2,d3,d4⟩
  ·exact .inl h
  ·obtain ⟨g,g1,g2,g3⟩:=h1 f d1
   exact .inr ⟨g,g1,by rw[g3]; exact d2,by rw[g2]; exact d3,by rw[g2]; exact d4⟩
 ·rcases hL with hL | ⟨f,d1,d2,d3,d4⟩
  ·exact h n (.inl hL)
  ·obtain ⟨g,g1,g2,g3⟩:=h2 f d1 d2
   exact h n (.inr ⟨g,g1,g3,by rw[g2]; exact d3,by rw[g2]; exact d4⟩)
 ·obtain ⟨g,g1,g2,_⟩:=h1 f hf
  show f.pg.lsn=_
  rw[<- g2]; exact hk.fr g g1
def SameF.mem(h:SameF l m)(hf:f∈m):∃ g∈l,g.pg=f.pg/\g.dirty=f.dirty:=by
 obtain⟨i,hi,rfl⟩:=Jd.1 hf
 have hl:=h.len
 have:=h.at_ i
 rw[Qf _ _ hi,Qf _ _ (by omega:i<l.length)] at this
 unfold Fm.clr at this
 simp only[Fm.mk.injEq] at this
 exact⟨_,Jh (by omega:i<l.length),this.1.symm,this.2.1.symm⟩
def SameF.symm(h:SameF l m):SameF m l:=Eq.symm h
def QvO(h:(Qd6 p a).2=0):∃ i:Nat,(p.fs.getD i Fm0).dirty=false/\(Qd6 p a).1.fs=p.fs.take i++p.fs.drop (i+1):=by
 unfold Qd6 at h |-
 split at h
 ·simp at h
 rename_i q1
 split at h
 ·simp at h
 rename_i q2
 split at h
 ·simp at h
 rename_i q3
 rw[if_neg q1,if_neg q2,if_neg q3]
 exact⟨(idF p.fs a).toNat,by simpa using q3,by dsimp only⟩
def KI.drop(hk:KI k)(h:(Qd6 k.pl a).2=0):KI ⟨k.pg,k.nx,k.lg,(Qd6 k.pl a).1,k.lk,k.tx,k.ix,k.la⟩:=by
 obtain⟨i,hd,hf⟩:=QvO h
 refine hk.pool (fun f q=>?_) fun g q hg=>?_
 ·rw [hf] at q
  rcases Ji.1 q with q | q
  ·exact⟨f,JP q,rfl,rfl⟩
  ·exact⟨f,JZ q,rfl,rfl⟩
 ·obtain ⟨j,hj,rfl⟩:=Jd.1 q
  have hji:j≠i:=fun h=>by subst h; rw[Qf _ _ hj,hg] at hd; cases hd
  refine⟨k.pl.fs[j],?_,rfl,hg⟩
  rw[hf,Ji]
  rcases Nat.lt_or_gt_of_ne hji with h | h
  ·left; rw[Jd]; exact⟨j,by rw[Jr]; omega,by rw[List.getElem_take]⟩
  ·right; rw[Jd]; exact⟨j-(i+1),by rw[JX]; omega,by rw[List.getElem_drop]; congr 1; omega⟩
def KI.put(hk:KI k)(v:kB k=true)(hr:0<=x.id/\x.id<k.pg)(hl:x.lsn=QfI k x.id):KI ⟨k.pg,k.nx,k.lg,⟨k.pl.size,k.pl.fs++[⟨x,false,0,true⟩],k.pl.hand⟩,k.lk,k.tx,k.ix,k.la⟩:=by
 rw[hk.head v hr.1 hr.2] at hl
 refine⟨hk.lg,hk.f,hk.log,hk.cor.weak (JK _) (fun q n h=>?_) (fun q h n hL=>?_),fun f hf=>?_⟩
 ·rcases h with h | ⟨f,d1,d2,d3,d4⟩
  ·exact .inl h
  ·rcases Ji.1 d1 with d1 | d1
   ·exact .inr ⟨f,d1,d2,d3,d4⟩
   ·rw[Jf.1 d1] at d2; cases d2
 ·rcases hL with hL | ⟨f,d1,d2⟩
  ·exact h n (.inl hL)
  ·exact h n (.inr ⟨f,Jl _ d1,d2⟩)
 ·rcases Ji.1 hf with d1 | d1
  ·exact hk.fr f d1
  ·rw[Jf.1 d1]; exact hl
def KI.putl(hk:KI k)(v:kB k=true)(hr:0<=x.id/\x.id<k.pg)(hl:x.lsn=QfI k x.id):KI ⟨k.pg,k.nx,k.lg,⟨k.pl.size,k.pl.fs++[⟨x,true,rc,true⟩],k.pl.hand⟩,k.lk,k.tx,k.ix,k.la.filter fun d=>decide (d.pg≠x.id)⟩:=by
 rw[hk.head v hr.1 hr.2] at hl
 refine⟨hk.lg,hk.f,hk.log,⟨hk.cor.pgr,hk.cor.ids,hk.cor.ok,hk.cor.all,hk.cor.len,fun p hp=>⟨(hk.cor.row p hp).1,fun q=>(hk.cor.row p hp).2 fun n hL=>?_⟩,fun p n h=>?_⟩,fun f hf=>?_⟩
 ·have hxp:(p:Int) ≠ x.id:=fun h=>q x.lsn (.inr ⟨_,JM _ (Jf.2 rfl),rfl,h.symm,rfl⟩)
  rcases hL with⟨d,d1,d2,d3⟩ | ⟨f,d1,d2⟩
  ·exact q n (.inl ⟨d,JR.2 ⟨d1,by simp; omega⟩,d2,d3⟩)
  ·exact q n (.inr ⟨f,Jl _ d1,d2⟩)
 ·rcases h with ⟨d,d1,d2,d3⟩ | ⟨f,d1,d2,d3,d4⟩
  ·exact hk.cor.la p n (.inl ⟨d,(JR.1 d1).1,d2,d3⟩)
  ·rcases Ji.1 d1 with d1 | d1
   ·exact hk.cor.la p n (.inr ⟨f,d1,d2,d3,d4⟩)
   ·rw [Jf.1 d1] at d3 d4
    rw[<- d4,<- d3]; exact hl
 ·rcases Ji.1 hf with d1 | d1
  ·exact hk.fr f d1
  ·rw[Jf.1 d1]; exact hl
def KI.rem(hk:KI k)(hi:0<=idT k.tx a)(hn:(Qbh k.tx a).n=0):KI ⟨k.pg,k.nx,k.lg,k.pl,k.lk,Qkw k.tx a,k.ix,k.la⟩:=by
 obtain⟨g1,g2⟩:=QnZ hi
 have g3:=(hk.cor.ok _ g1).n
 rw[g2,hn] at g3
 refine hk.txs (hk.cor.same (JK _) (fun t q=>hk.cor.ok t (mem_remS.1 q).1) fun x hx _ ⟨t,q1,q2⟩=>⟨t,mem_remS.2 ⟨q1,fun h=>?_⟩,q2⟩)
 have:=Ql7 k.lg.es (a:=a) (fun y hy=>(QnV hk.lg hk.f hy).1) ⟨x,hx,by omega⟩
 omega
def Stp.KI (h:Stp n k k') (hk:KI k):KI k':=by
 cases h with
 | begin v hb =>
   refine⟨hk.lg,hk.f,hk.log,hk.cor.beginT (show k.nx<=k.nx+1 by omega) hb fun x hx=>?_,hk.fr⟩
   have:=hk.cor.ids x hx
   omega
 | fin ha h3 hf=>exact hk.fin ha h3 hf
 | ckpt ha h6 hc=>exact hk.ckpt ha h6 hc
 | change ha h1 hs hu=>exact hk.setE ha (.inl h1) hs hu
 | undo ha h2 hs hu=>exact hk.setE ha (.inr h2) hs hu
 | wrt ha h7 hw=>exact hk.wrt ha h7 hw
 | lock u=>exact⟨hk.lg,hk.f,hk.log,hk.cor,hk.fr⟩
 | save a h =>
   obtain⟨i,hi,e⟩:=Qtf h
   rw[e]
   exact hk.txs (hk.cor.setT hi rfl rfl rfl Iff.rfl)
 | back a b h =>
   obtain⟨i,hi,u,e,h1,h2,h3,h4⟩:=Qwn h
   rw[e]
   exact hk.txs (hk.cor.setT hi h1 h2 h3 h4)
 | rem a hi hn=>exact hk.rem hi hn
 | pool p hs =>
   refine hk.pool (fun f q=>hs.mem q) fun g q hg=>?_
   obtain⟨f,f1,f2,f3⟩:=hs.symm.mem q
   exact⟨f,f1,f2,by rw[f3]; exact hg⟩
 | drop a h=>exact hk.drop h
 | put x v hr hl _ _=>exact hk.put v hr hl
 | putl x v hr hl _ _=>exact hk.putl v hr hl
 | force d h=>exact⟨h hk.lg,hk.f,hk.log,hk.cor,hk.fr⟩
def Str.KI(h:Str n k k')(hk:KI k):KI k':=by
 induction h with
 | refl k=>exact hk
 | step _ h2 ih=>exact h2.KI (ih hk)
section
structure RQ(s:List UInt8) where
 at_:Nat
 sh:Bool
 ha:at_<=s.length
def rbQ(T:TypeId)(s:List UInt8)(r:RQ s):Blk:=⟨T,true,[.pv (.str s),.int .i64 r.at_,.bool r.sh]⟩
theorem QB5(T:TypeId)(s:List UInt8)(r:RQ s):DV.nums.go (fun _=>false) (rbQ T s r).cells=true:=rfl
def Qcq(s:List UInt8)(k:Nat)(r:RQ s):Int×RQ s:=
 if h:r.sh=true\/¬ r.at_+k<=s.length then (0,⟨r.at_,true,r.ha⟩) else (IntKind.i64.wrap (Qfi s r.at_ k),⟨r.at_+k,false,by omega⟩)
def Qhn(h:r.sh=true\/¬ r.at_+k<=s.length):Qcq s k r=(0,⟨r.at_,true,r.ha⟩):=by unfold Qcq; rw[dif_pos h]
def QjX(h:r.sh=false)(h':r.at_+k<=s.length):Qcq s k r=(IntKind.i64.wrap (Qfi s r.at_ k),⟨r.at_+k,false,h'⟩):=by
 unfold Qcq; rw[dif_neg (fun z=>z.elim (fun z=>by rw[h] at z; cases z) (fun z=>z h'))]
def RQ.lim{s:List UInt8}(r:RQ s):Nat:=r.at_+(if r.sh then 4 else 0)
def RQ.lim_le(r:RQ s):r.lim<=s.length+4:=by have:=r.ha; unfold RQ.lim; split<;>omega
def Qho(hk:4<=k)(r:RQ s)(hr:r.sh=false):r.lim+4<=(Qcq s k r).2.lim:=by
 by_cases h:r.at_+k<=s.length
 ·rw[QjX hr h]; simp only[RQ.lim,hr]; simp; omega
 ·rw[Qhn (.inr h)]; simp only[RQ.lim,hr]; simp
def Qgx(r:RQ s):r.lim<=(Qcq s k r).2.lim:=by
 cases hr:r.sh
 ·by_cases h:r.at_ + k<=s.length
  ·rw[QjX hr h]; simp only[RQ.lim,hr]; simp
  ·rw[Qhn (.inr h)]; simp only[RQ.lim,hr]; simp
 ·rw[Qhn (.inl hr)]; simp only[RQ.lim,hr]; simp
def Qo4(r:RQ s): -9223372036854775808<=(Qcq s k r).1/\(Qcq s k r).1<=9223372036854775807:=by
 unfold Qcq
 split
 ·dsimp only; omega
 ·dsimp only; rw[IntKind.wrap_i64]; omega
def rdN(s:List UInt8):Nat->List Int->RQ s->List Int×RQ s
 | 0,out,r=>(out,r)
 | n+1,out,r=>if r.sh=true then (out,r) else rdN s n (out++[(Qcq s 8 r).1]) (Qcq s 8 r).2
def QET(h:r.sh=true):rdN s n out r=(out,r):=by cases n; rfl; rw[rdN,if_pos h]
def QnD:∀ (n:Nat) (out:List Int) (r:RQ s),4 * out.length<=r.lim->4 * (rdN s n out r).1.length<=(rdN s n out r).2.lim/\r.lim<=(rdN s n out r).2.lim
 | 0,_,_,h=>⟨h,JB _⟩
 | n + 1,out,r,h=>by
   unfold rdN
   split
   ·exact⟨h,JB _⟩
   ·rename_i hr
    have h1:=Qho (k:=8) (by omega) r (by simpa using hr)
    have h2:=QnD n (out++[(Qcq s 8 r).1]) (Qcq s 8 r).2 (by simp; omega)
    exact⟨h2.1,by omega⟩
def Qe0(s:List UInt8)(k:Nat)(r:RQ s):List Int×RQ s:=rdN s (Qcq s k r).1.toNat [] (Qcq s k r).2
def Ql2(r:RQ s):4*(Qe0 s k r).1.length<=s.length+4:=Jk (QnD _ _ _ (Jc _)).1 (RQ.lim_le _)
def Ql1(r:RQ s):r.lim<=(Qe0 s k r).2.lim:=Jk (Qgx r) (QnD _ _ _ (Jc _)).2
def txS(s:List UInt8)(r:RQ s):Tx×RQ s:=
 let a:=Qcq s 4 r
 let b:=Qcq s 1 a.2
 let c:=Qcq s 8 b.2
 let d:=Qcq s 8 c.2
 let q:=Qe0 s 2 d.2
 let v:=Qe0 s 1 q.2
 (⟨a.1,b.1,c.1,d.1,q.1,v.1⟩,v.2)
def Qou(r:RQ s)(hr:r.sh=false):r.lim+4<=(txS s r).2.lim:=by
 have h1:=Qho (k:=4) (by omega) r hr
 refine Jk h1 ?_
 unfold txS
 refine Jk (Qgx _) (Jk (Qgx _) (Jk (Qgx _) (Jk (Ql1 _) (Ql1 _))))
def QEq(hs:s.length<=3000000)(r:RQ s):(txS s r).1.sm:=⟨by have:=Ql2 (k:=2) (Qcq s 8 (Qcq s 8 (Qcq s 1 (Qcq s 4 r).2).2).2).2; show(Qe0 s 2 _).1.length<=_; omega,by have:=Ql2 (k:=1) (Qe0 s 2 (Qcq s 8 (Qcq s 8 (Qcq s 1 (Qcq s 4 r).2).2).2).2).2; show(Qe0 s 1 _).1.length<=_; omega⟩
def rdT(s:List UInt8):Nat->List Tx->RQ s->List Tx×RQ s
 | 0,out,r=>(out,r)
 | n+1,out,r=>if r.sh=true then (out,r) else rdT s n (out++[(txS s r).1]) (txS s r).2
def QES(h:r.sh=true):rdT s n out r=(out,r):=by cases n; rfl; rw[rdT,if_pos h]
def Qt1:∀ (n:Nat) (out:List Tx) (r:RQ s),4 * out.length<=r.lim->4 * (rdT s n out r).1.length<=(rdT s n out r).2.lim
 | 0,_,_,h=>h
 | n + 1,out,r,h=>by
   unfold rdT
   split
   ·exact h
   ·rename_i hr
    have h1:=Qou r (by simpa using hr)
    exact Qt1 n (out++[(txS s r).1]) (txS s r).2 (by simp; omega)
def QAd (hs:s.length<=3000000):∀ (n:Nat) (out:List Tx) (r:RQ s),(∀ t ∈ out,t.sm)->∀ t ∈ (rdT s n out r).1,t.sm
 | 0,_,_,h=>h
 | n + 1,out,r,h=>by
   unfold rdT
   split
   ·exact h
   ·refine QAd hs n _ _ fun t ht=>?_
    rcases Ji.1 ht with h1 | h1
    ·exact h t h1
    ·rw[Jf.1 h1]; exact QEq hs r
def rq0(s:List UInt8):RQ s:=⟨0,false,Jc _⟩
def rdA(s:List UInt8):List Tx×RQ s:=rdT s (Qcq s 2 (rq0 s)).1.toNat [] (Qcq s 2 (rq0 s)).2
def QEU(hs:s.length<=3000000):smL (rdA s).1:=
 ⟨by have:=Qt1 (Qcq s 2 (rq0 s)).1.toNat [] (Qcq s 2 (rq0 s)).2 (Jc _); have h2:=(rdA s).2.lim_le; unfold rdA at h2 |-; omega,QAd hs _ _ _ (by simp)⟩
def QAA(s:List UInt8):List Tx×Int:=
 if (rdA s).2.sh=true then ([],5) else if ((rdA s).2.at_:Int)≠s.length then ([],4) else if QbD (rdA s).1=false then ([],15) else ((rdA s).1,0)
abbrev RY(T:TypeId)(s:List UInt8)(v:DV)(q:RQ s):DV->Qb->Prop:=fun r h'=>∃ B',h'=[B']/\B'.live=true/\DV.nums.go (fun _=>false) B'.cells=true/\r.nums (fun _=>false)=true/\(r=v/\B'=rbQ T s q)
def Qjt(h:VCalls prog g (args.map (DV.ren fun _=>0)) [rbQ T s r] (RY T s v q))(hk:hp[k]?=some (rbQ T s r))(ha:DV.nums.go (fun i=>i==k) args=true)(hK:K v (hp.set k (rbQ T s q))):VCalls prog g args hp K:=
 (VCalls.ptr1 (R:=fun x B'=>x=v/\B'=rbQ T s q) hk rfl (QB5 T s r) h ha).mono fun x h' ⟨B',e1,_,_,e2,e3⟩=>by subst e1 e2 e3; exact hK
attribute [local go_sem] rbQ
attribute [local go_sem] QCw QD8 QEx QEv Qvk Qgl
@[go_sem] def lb(l:List Int):DV:=.pv (.sl (fz Qad l))
def Qek(s:List UInt8)(hs:s.length<=3000000)(k:Nat)(h1:1<=k)(h8:k<=8)(r:RQ s):VCalls prog 237 [.ptr 0 0,.int .i64 k] [rbQ 341 s r] (RY 341 s (.int .i64 (Qcq s k r).1) (Qcq s k r).2):=by
 refine dd Tryz.func237 ?_
 have ha:=r.ha
 by_cases h:r.at_+k<=s.length
 ·have c1:=QiK s (by omega) r.at_ k ⟨h1,h8⟩ h
  cases hr:r.sh
  ·rw [QjX hr h]
   (unfold Tryz.f237; refine rn trivial ?_)
   have F:=@hr
   refine rn F ?_
   repeat' (first
    | with_reducible exact⟨⟩
    | refine vp F (c1) ?_
    | (refine Qd (id:=1) [0,1,2,3,4,5,6,7,8] [⟨[],[],9,[0,1,2,4,5,6],[10,11,12]⟩,⟨[],[],13,[12],[]⟩,⟨[],[],14,[],[]⟩] (by kernel_rfl) (by kernel_rfl) ?_; refine rn F ?_))
   all_goals exact⟨_,rfl,rfl,rfl,rfl,rfl,rfl⟩
  ·rw [Qhn (.inl hr)]
   (unfold Tryz.f237; refine rn trivial ?_)
   have F:=@hr
   refine rn F ?_
   repeat' (first
    | with_reducible exact⟨⟩
    | refine vp F (c1) ?_
    | (refine Qd (id:=1) [0,1,2,3,4,5,6,7,8] [⟨[],[],9,[0,1,2,4,5,6],[10,11,12]⟩,⟨[],[],13,[12],[]⟩,⟨[],[],14,[],[]⟩] (by kernel_rfl) (by kernel_rfl) ?_; refine rn F ?_))
   all_goals exact⟨_,rfl,rfl,rfl,rfl,rfl,(by first | rfl | simp only[rbQ,hr])⟩
 ·have c1:=QdO s r.at_ k (by omega) (by omega) (by omega)
  rw[Qhn (.inr h)]
  (unfold Tryz.f237; refine rn trivial ?_)
  have F:=trivial
  refine rn F ?_
  repeat' (first
   | with_reducible exact⟨⟩
   | (refine sG F ?_ ?_<;>intro hZ)
   | refine vp F (c1) ?_
   | (refine Qd (id:=1) [0,1,2,3,4,5,6,7,8] [⟨[],[],9,[0,1,2,4,5,6],[10,11,12]⟩,⟨[],[],13,[12],[]⟩,⟨[],[],14,[],[]⟩] (by kernel_rfl) (by kernel_rfl) ?_; refine rn F ?_))
  all_goals exact⟨_,rfl,rfl,rfl,rfl,rfl,rfl⟩
structure LSrnum(s:List UInt8)(fin:List Int×RQ s) where
 n:Int
 out:List Int
 r:RQ s
 hn : -9223372036854775808<=n/\n<=9223372036854775807
 ho:4*out.length<=r.lim
 he:rdN s n.toNat out r=fin
def QAc(s:List UInt8)(hs:s.length<=3000000)(k:Nat)(h1:1<=k)(h8:k<=8)(r:RQ s):VCalls prog 238 [.ptr 0 0,.int .i64 k] [rbQ 341 s r] (RY 341 s (lb (Qe0 s k r).1) (Qe0 s k r).2):=by
 refine dd Tryz.func238 ?_
 (unfold Tryz.f238; refine rn trivial ?_)
 refine Qjt (k:=0) (Qek s hs k h1 h8 r) rfl rfl ?_
 refine rn trivial ?_
 refine VLoop.nilOwn 5 3 1 rfl ?_
 refine Qj (fun t:LSrnum s (Qe0 s k r)=>⟨27,1,[(6,.int .i64 t.n),(5,.own 1 1 0 t.out.length),(0,.ptr 0 0)],[rbQ 341 s t.r,⟨3,true,cells Qad t.out⟩]⟩) (fun t=>t.n.toNat) ⟨(Qcq s k r).1,[],(Qcq s k r).2,Qo4 r,Jc _,rfl⟩ (gc [0,1]) ?_
 rintro⟨n,out,q,hn,ho,he⟩
 dsimp only
 have hl:=q.lim_le
 have hl1:out.length+1<=1000000:=by omega
 have hb:(out.length+1)*8<=140737488355328:=by omega
 obtain⟨a,sh,ha⟩:=q
 cases sh
 ·by_cases h0:0 < n
  ·have e:n.toNat = (n - 1).toNat + 1:=by omega
   rw[e,rdN,if_neg (by simp)] at he
   have hm:=Qho (k:=8) (by omega) (⟨a,false,ha⟩:RQ s) rfl
   have F:=(Jb @h0 (Jb @Qkq @hb))
   refine rn F ?_
   refine Qjt (k:=0) (Qek s hs 8 (by omega) (by omega) ⟨a,false,ha⟩) rfl rfl ?_
   have F:=(Jb @Qkq @hb)
   refine rn F ?_
   refine⟨⟨n-1,_,_,by omega,by simp; omega,he⟩,by show(n-1).toNat<n.toNat; omega,?_⟩
   dsimp only
   rw[Ja]
   exact(gc [0,3])
  ·have e:n.toNat = 0:=by omega
   rw[e,rdN] at he
   have F:=(Jb @Qkq @hb)
   (refine rn F ?_; try with_reducible exact⟨⟩)
   all_goals exact⟨_,rfl,rfl,rfl,rfl,(by rw[<- he]; try rfl),(by rw[<- he]; try rfl)⟩
 ·rw [QET rfl] at he
  have F:=(Jb @Qkq @hb)
  refine rn F ?_
  repeat' (first
   | with_reducible exact⟨⟩
   | (refine sG F ?_ ?_<;>intro hZ))
  all_goals exact⟨_,rfl,rfl,rfl,rfl,(by rw[<- he]; try rfl),(by rw[<- he]; try rfl)⟩
structure DTrnum(s:List UInt8) where
 n:Int
 out:List Tx
 r:RQ s
 hn : -9223372036854775808<=n/\n<=9223372036854775807
 ho:4*out.length<=r.lim
 he:rdT s n.toNat out r=rdA s
def Qqr(s:List UInt8)(hs:s.length<=3000000):VCalls prog 235 [.pv (.str s)] [] (Ret (QD1 (QAA s))):=by
 refine VCalls.unwk ?_
 refine dd Tryz.func235 ?_
 (unfold Tryz.f235; refine rn trivial ?_)
 refine Qjt (k:=0) (Qek s hs 2 (by omega) (by omega) (rq0 s)) rfl rfl ?_
 refine rn trivial ?_
 refine VLoop.nilOwn 5 197 6 rfl ?_
 refine Qj (fun t:DTrnum s=>⟨64,0,[(6,.int .i64 t.n),(5,.own 1 6 0 t.out.length),(4,.ptr 0 0),(0,.pv (.str s))],[rbQ 341 s t.r,⟨197,true,cells Qap t.out⟩]⟩) (fun t=>t.n.toNat) ⟨(Qcq s 2 (rq0 s)).1,[],(Qcq s 2 (rq0 s)).2,Qo4 _,Jc _,rfl⟩ (gc [0,1]) ?_
 rintro⟨n,out,q,hn,ho,he⟩
 dsimp only
 have hl:=q.lim_le
 have hb:(out.length+1)*80<=140737488355328:=by omega
 have hsm:=QEU hs
 have ed:QAA s=if (rdA s).2.sh=true then ([],5) else if ((rdA s).2.at_:Int)≠s.length then ([],4) else if QbD (rdA s).1=false then ([],15) else ((rdA s).1,0):=rfl
 obtain⟨a,sh,ha⟩:=q
 cases sh
 ·by_cases h0:0 < n
  ·have e:n.toNat = (n - 1).toNat + 1:=by omega
   rw[e,rdT,if_neg (by simp)] at he
   have hm:=Qou (⟨a,false,ha⟩:RQ s) rfl
   simp only[txS] at he hm
   have cA:=Qek s hs 4 (by omega) (by omega) ⟨a,false,ha⟩
   generalize Qcq s 4 ⟨a,false,ha⟩=A at cA he hm
   have cB:=Qek s hs 1 (by omega) (by omega) A.2
   generalize Qcq s 1 A.2=B at cB he hm
   have cC:=Qek s hs 8 (by omega) (by omega) B.2
   generalize Qcq s 8 B.2=C at cC he hm
   have cD:=Qek s hs 8 (by omega) (by omega) C.2
   generalize Qcq s 8 C.2=D at cD he hm
   have cE:=QAc s hs 2 (by omega) (by omega) D.2
   generalize Qe0 s 2 D.2=E at cE he hm
   have cF:=QAc s hs 1 (by omega) (by omega) E.2
   generalize Qe0 s 1 E.2=W at cF he hm
   have F:=(Jb @h0 (Jb @Qgl @hb))
   refine rn F ?_
   refine Qjt (k:=0) cA rfl rfl ?_
   have F:=(Jb @h0 (Jb @Qgl @hb))
   refine rn F ?_
   refine Qjt (k:=0) cB rfl rfl ?_
   have F:=(Jb @h0 (Jb @Qgl @hb))
   refine rn F ?_
   refine Qjt (k:=0) cC rfl rfl ?_
   have F:=(Jb @h0 (Jb @Qgl @hb))
   refine rn F ?_
   refine Qjt (k:=0) cD rfl rfl ?_
   have F:=(Jb @h0 (Jb @Qgl @hb))
   refine rn F ?_
   refine Qjt (k:=0) cE rfl rfl ?_
   have F:=(Jb @h0 (Jb @Qgl @hb))
   refine rn F ?_
   refine Qjt (k:=0) cF rfl rfl ?_
   have F:=(Jb @h0 (Jb @Qgl @hb))
   refine rn F ?_
   refine⟨⟨n-1,_,_,by omega,by simp; omega,he⟩,by show(n-1).toNat<n.toNat; omega,?_⟩
   dsimp only
   have e2:cells Qap out++[.pv (.lit (.int .i64 A.1)),.pv (.lit (.int .i64 B.1)),.pv (.lit (.int .i64 C.1)),.pv (.lit (.int .i64 D.1)),.pv (.sl (fz Qad E.1)),.pv (.sl (fz Qad W.1))]=cells Qap (out++[⟨A.1,B.1,C.1,D.1,E.1,W.1⟩]):=Qgl out ⟨A.1,B.1,C.1,D.1,E.1,W.1⟩
   rw[Ja]
   rw[e2]
   exact(gc [0,4])
  ·have e:n.toNat = 0:=by omega
   rw[e,rdT] at he
   rw[<- he] at ed hsm
   have c1:=QbW out hsm
   rw[ed]
   by_cases h1:(a:Int)=s.length
   ·cases hv:QbD out
    ·rw [hv] at c1
     dsimp only
     rw[if_neg (by simp),if_neg (by simpa using h1),if_pos (by first | rfl | exact hv)]
     have F:=(Jb @h0 (Jb @h1 @hb))
     refine rn F ?_
     repeat' (first
      | with_reducible exact⟨⟩
      | refine vl F (c1) ?_)
     all_goals first | rfl | contradiction
    ·rw [hv] at c1
     dsimp only
     rw[if_neg (by simp),if_neg (by simpa using h1),if_neg (by first | simp; done | (rw[hv]; simp))]
     have F:=(Jb @h0 (Jb @h1 @hb))
     refine rn F ?_
     repeat' (first
      | with_reducible exact⟨⟩
      | refine vl F (c1) ?_)
     all_goals first | rfl | contradiction
   ·dsimp only
    rw[if_neg (by simp),if_pos (by simpa using h1)]
    have F:=(Jb @h0 (Jb @h1 @hb))
    (refine rn F ?_; try with_reducible exact⟨⟩)
    all_goals first | rfl | contradiction
 ·rw [QES rfl] at he
  rw[<- he] at ed
  rw[ed]
  dsimp only
  rw[if_pos rfl]
  have F:=@hb
  refine rn F ?_
  repeat' (first
   | with_reducible exact⟨⟩
   | (refine sG F ?_ ?_<;>intro hZ))
  all_goals first | rfl | contradiction
end
def QiN(c:Cp)(h:c.sm):VCalls prog 135 [.agg c.d] [] (QL boD fun b=>b=true->CkV c):=by
 refine dd Tryz.func135 ?_
 obtain⟨h1,h2,h3⟩:=h
 have h10:=h1.1
 have c1:=QbW c.tx (h1.smL (by omega))
 have c2:=fun n=>Qlo c.dl (by omega) n
 have c3:=QbM c.ix (by omega)
 have e:CkV c=((1<=c.pg/\c.pg<=64)/\(1<=c.nx/\c.nx<=1073741825)/\QbD c.tx=true/\laB c.dl c.pg=true/\ixB c.ix=true/\(c.ix.length:Int)=c.pg):=rfl
 generalize QbD c.tx=b1 at *
 generalize ixB c.ix=b2 at *
 (unfold Tryz.f135; refine rn trivial ?_)
 refine rn F ?_
 repeat' (first
  | with_reducible exact⟨⟩
  | (refine sG F ?_ ?_<;>intro hZ)
  | (refine sB F ?_ ?_<;>intro hZ)
  | refine vp F (c1) ?_
  | (refine Qp (c2 _) rfl ?_; rintro b3 hb3; refine rn F ?_)
  | refine vp F (c3) ?_)
 all_goals first
  | exact⟨rfl,rfl,false,rfl,fun h=>by cases h⟩
  | skip
 all_goals
  have hV:CkV c:=by
   rw[e]
   refine⟨⟨by omega,by omega⟩,⟨by omega,by omega⟩,?_,?_,?_,?_⟩<;>first | assumption | omega | (simp_all; done)
  refine Qj (fun s:To c.tx.length=>⟨67,0,[(3,.int .i64 s.i),(1,.ptr 0 0)],[⟨189,true,c.d⟩]⟩) (fun s=>c.tx.length-s.i) ⟨0,Jc _⟩ (gc [0]) ?_
  rintro⟨i,hi⟩
  dsimp only
  have hg:=fun h:i<c.tx.length=>Qeq c.tx i h
  have F:=@hg
  refine rn F ?_
  repeat' (first
   | with_reducible exact⟨⟩
   | (refine sB F ?_ ?_<;>intro hZ)
   | (refine Qd (id:=6) [0,1,2,3,4,5,6,7,8] [] (by kernel_rfl) (by kernel_rfl) ?_; refine rn F ?_))
 all_goals first
  | exact⟨rfl,rfl,false,rfl,fun h=>by cases h⟩
  | exact⟨rfl,rfl,true,rfl,fun _=>hV⟩
  | exact⟨⟨i+1,by omega⟩,by dsimp only; omega,(gc [0])⟩
  | skip
def Qfa:∀ (l:List Dt) (s:List UInt8),(Qds s l).length = s.length + 17 * l.length
 | [],s=>by simp[Qds]
 | t :: r,s=>by
   show(Qds (Qkg s t) r).length=_
   rw[Qfa r]
   unfold Qkg
   rw[Qe,Qe,Qe,Jq]; omega
def QiZ(s:List UInt8)(l:List Dt)(i:Nat)(h:i<l.length):Qds s (l.take (i+1))=Qkg (Qds s (l.take i)) (l.getD i Dt0):=by
 rw[Jg h,Qds,Jw,Qf l i h]; rfl
def QFO(c:Cp)(a:List UInt8×Int):Prop:=a.1.length<=300000000/\(a.1=[]\/CkV c/\a.1=QaR c)
def Qyc(c:Cp)(h:c.sm):VCalls prog 95 [.agg c.d] [] (QL siD (QFO c)):=by
 refine dd Tryz.func95 ?_
 have c1:=QiN c h
 obtain⟨h1,h2,h3⟩:=h
 have c2:=QBF c.tx h1
 have c3:=Qx1 c.ix h3
 have p1:=QY [] (by simp) c.pg 2 (by omega) (by omega)
 have p2:=QY (Qn [] c.pg 2) (by rw[Qe]; simp) c.nx 4 (by omega) (by omega)
 (unfold Tryz.f95; refine rn trivial ?_)
 refine Qp c1 rfl ?_
 rintro b hb
 cases b
 ·skip
  refine rn F ?_
  exact⟨rfl,rfl,([],24),rfl,by simp,.inl rfl⟩
 have hV:=hb rfl
 obtain⟨_,_,v3,v4,v5,_⟩:=hb rfl
 have hle:=Qpy v3
 have hlx:=Qmu c.ix
 have eck:QaR c=Qds (Qn (Qn (Qn (Qn [] c.pg 2) c.nx 4) (QaY c.tx).length 4++QaY c.tx) c.dl.length 1) c.dl++QcI c.ix:=rfl
 replace c2:=c2 v3
 replace c3:=c3 v5
 generalize QaY c.tx=t at *
 generalize QcI c.ix=w at *
 have p3:=QY (Qn (Qn [] c.pg 2) c.nx 4) (by rw[Qe,Qe]; simp) t.length 4 (by omega) (by omega)
 have l3:(Qn (Qn (Qn [] c.pg 2) c.nx 4) t.length 4).length=10:=by rw[Qe,Qe,Qe]; simp
 have hadd:=Qdg (a:=Qn (Qn (Qn [] c.pg 2) c.nx 4) t.length 4) (b:=t) (by omega)
 have p4:=QY (Qn (Qn (Qn [] c.pg 2) c.nx 4) t.length 4++t) (by rw[Ja]; omega) c.dl.length 1 (by omega) (by omega)
 have l4:(Qn (Qn (Qn (Qn [] c.pg 2) c.nx 4) t.length 4++t) c.dl.length 1).length=11+t.length:=by rw[Qe,Ja]; omega
 have F:=@hadd
 refine rn F ?_
 repeat' (first
  | with_reducible exact⟨⟩
  | refine vp F (p1) ?_
  | refine vp F (p2) ?_
  | refine vp F (c2) ?_
  | refine vp F (p3) ?_
  | refine vp F (p4) ?_)
 generalize Qn (Qn (Qn (Qn [] c.pg 2) c.nx 4) t.length 4++t) c.dl.length 1=u at *
 refine Qj (fun r:To c.dl.length=>⟨77,0,[(7,.int .i64 r.i),(6,.pv (.str (Qds u (c.dl.take r.i)))),(1,.ptr 0 0)],[⟨189,true,c.d⟩]⟩) (fun r=>c.dl.length-r.i) ⟨0,Jc _⟩ (gc [0]) ?_
 rintro⟨i,hi⟩
 dsimp only
 have hy:=fun h:i<c.dl.length=>Qe5 c.dl i h
 have hlen:=Qfa (c.dl.take i) u
 rw[Jr] at hlen
 have hsc:=QiZ u c.dl i
 have hend:c.dl.length<=i->c.dl.take i=c.dl:=fun h=>Jn h
 by_cases hc:i<c.dl.length
 ·replace hsc:=hsc hc
  generalize Qds u (c.dl.take i)=s at *
  generalize c.dl.getD i Dt0=x at *
  unfold Qkg at hsc
  have q1:=QY s (by omega) x.pg 1 (by omega) (by omega)
  have q2:=QY (Qn s x.pg 1) (by rw[Qe]; omega) x.rc 8 (by omega) (by omega)
  have q3:=QY (Qn (Qn s x.pg 1) x.rc 8) (by rw[Qe,Qe]; omega) x.last 8 (by omega) (by omega)
  have F:=@hy
  refine rn F ?_
  repeat' (first
   | with_reducible exact⟨⟩
   | refine vp F (q1) ?_
   | refine vp F (q2) ?_
   | refine vp F (q3) ?_)
  refine⟨⟨i+1,by omega⟩,by dsimp only; omega,?_⟩
  dsimp only
  rw[hsc]
  exact(gc [0])
 ·rw [hend (by omega)] at hlen |-
  generalize Qds u c.dl=v at *
  have hadd2:=Qdg (a:=v) (b:=w) (by omega)
  have F:=(Jb @hy @hadd2)
  refine rn F ?_
  repeat' (first
   | with_reducible exact⟨⟩
   | refine vp F (c3) ?_)
  exact⟨rfl,rfl,(v++w,0),rfl,by dsimp only; rw[Ja]; omega,.inr ⟨hV,eck.symm⟩⟩
def Qmq(h:(Q8 x n).2=0):Ev x (Q8 x n).1:=by
 unfold Q8 at h |-
 split at h
 ·simp at h
 rename_i q1
 split at h
 ·simp at h
 rename_i q2
 rw[if_neg q1,if_neg q2]
 refine⟨rfl,List.prefix_rfl,fun hv=>?_⟩
 have hd:=QaG hv
 unfold lgB at hv |-
 simp only[Je,decide_eq_true_eq] at hv |-
 refine⟨?_,hv.2⟩
 simp only[Lg.hd,Lg.end_] at hd q2 |-
 split<;>omega
def QiX(x:Lg)(n:Int)(h:x.es.length<=4096):(Q8 x n).1.es.length<=4096:=by
 unfold Q8
 repeat' split
 all_goals first | exact Jc _ | exact h
def QrD(hq:QwL k e (k1,n1,e1))(h:e1=0):(Q8 k1.lg n1).2=0:=by
 obtain⟨e',⟨_,_,_,hl,_⟩,hk,hn,hv⟩:=hq.2 h
 dsimp only at hk hn hv
 subst hk
 unfold Q8
 rw[if_neg (by rw[hv]; decide),if_neg]
 simp only[Kn.add,Lg.end_,Ja,Jq,Ju] at *
 omega
def Qe6(h:(Q8 x n).2=0):(Q8 x n).1=⟨x.f,x.es,(Q8 x n).1.d⟩:=by
 unfold Q8 at h |-
 split at h
 ·simp at h
 rename_i q1
 split at h
 ·simp at h
 rename_i q2
 rw[if_neg q1,if_neg q2]
def QEs(k:Kn)(a:Kn×Int×Int):Prop:=a.1.sm/\(a.2.2=0->Str 1 k a.1)
def QBH(k:Kn)(h:k.sm):VCalls prog 66 [.agg k.d] [] (QL kie (QEs k)):=by
 refine dk Tryz.func66 ?_
 have c1:=QB1 k h
 have c2:=fun c hc=>Qyc c hc
 have c3:=fun t=>Qel k h ⟨0,6,0,0,0,0,Ch0,t⟩
 have e0:∀ n e,e≠0->QEs k (Kn0,n,e):=fun n e h=>⟨Qcb,fun h2=>absurd h2 h⟩
 (unfold Tryz.f66; refine rn trivial ?_)
 refine rn F ?_
 repeat' (first
  | with_reducible exact⟨⟩
  | (refine sB F ?_ ?_<;>intro hZ)
  | (refine Qp (c1) rfl ?_; rintro⟨c,e⟩ hc; refine rn F ?_)
  | (refine Qp (c2 c hc.1) rfl ?_; rintro⟨t,e2⟩ ht; refine rn F ?_)
  | (refine Qp (c3 _) rfl ?_; rintro⟨k1,n1,e1⟩ hq; refine rn F ?_)
  | refine vp F (QjJ k1.lg (Jk hq.1.1 (by decide)) n1) ?_)
 all_goals first
  | exact⟨rfl,rfl,(Kn0,0,21),rfl,e0 _ _ (by decide)⟩
  | exact⟨rfl,rfl,(Kn0,0,e),rfl,e0 _ _ (by assumption)⟩
  | exact⟨rfl,rfl,(Kn0,0,e1),rfl,e0 _ _ (by assumption)⟩
  | skip
 have he1:e1=0:=by omega
 obtain⟨r1,r2,r3,r4,r5,r6⟩:=hq.1
 have hf0:=QrD hq he1
 obtain⟨e',ha,hk1,_,_⟩:=hq.2 he1
 dsimp only at hk1
 have qs:Str 1 k k1:=by
  rw[hk1]
  refine .one (.ckpt ha rfl ?_)
  rcases ht.2 with h | ⟨h,h'⟩
  ·exact .inl h
  ·exact .inr ⟨c,hc.2 (by first | assumption | (dsimp only; omega)),h,h'⟩
 have qf:=Stp.force (k:=k1) (Q8 k1.lg n1).1.d fun _=>by
  have:=(Qmq hf0).ok (hq.2 he1).choose_spec.2.2.2
  rw[Qe6 hf0] at this
  exact this
 rw[<- Qe6 hf0] at qf
 exact⟨rfl,rfl,(⟨k1.pg,k1.nx,(Q8 k1.lg n1).1,k1.pl,k1.lk,k1.tx,k1.ix,k1.la⟩,n1,0),rfl,⟨QiX _ _ r1,r2,r3,r4,r5,r6⟩,fun _=>qs.step qf⟩
def Qtt(s:Sv)(hs:s.sm):VCalls prog 44 [.agg s.d] [] (QL QHH fun a=>a.1.sm/\(a.2.2=0->Str 1 s.k a.1.k)):=by
 refine dk Tryz.func44 ?_
 have c1:=QBH s.k hs.1
 (unfold Tryz.f44; refine rn trivial ?_)
 refine rn F ?_
 repeat' (first
  | with_reducible exact⟨⟩
  | (refine sB F ?_ ?_<;>intro hZ)
  | (refine Qp (c1) rfl ?_; rintro⟨k1,n1,e1⟩ hq; refine rn F ?_))
 all_goals first
  | exact⟨rfl,rfl,(Sv0,0,e1),rfl,QdC,fun h=>absurd h (by assumption)⟩
  | exact⟨rfl,rfl,(⟨k1,s.v⟩,n1,0),rfl,⟨hq.1,hs.2⟩,fun _=>hq.2 (by dsimp only; omega)⟩
  | skip
def Pre(q s:List UInt8):Prop:=∃ u,s=q++u
def Pre.trans(h:Pre p q)(h':Pre q s):Pre p s:=by
 obtain⟨u,rfl⟩:=h; obtain⟨v,rfl⟩:=h'; exact⟨u++v,by rw[JE]⟩
def Pre.refl(s:List UInt8):Pre s s:=⟨[],by simp⟩
def Pre.len(h:Pre p s):p.length<=s.length:=by obtain⟨u,rfl⟩:=h; simp
def QT(s:List UInt8)(n:Int)(k:Nat):Pre s (Qn s n k):=⟨_,rfl⟩
def Qcf:∀ (l:List Int) (s:List UInt8),Pre s (Qkx s l)
 | [],s=>.refl s
 | a::r,s=>(QT s a 8).trans (Qcf r (Qn s a 8))
def QvI(s:List UInt8)(t:Tx):Pre s (Qe8 s t):=by
 unfold Qe8
 exact(QT _ _ _).trans ((QT _ _ _).trans ((QT _ _ _).trans ((QT _ _ _).trans ((QT _ _ _).trans ((Qcf _ _).trans ((QT _ _ _).trans (Qcf _ _)))))))
def QhF:∀ (l:List Tx) (s:List UInt8),Pre s (Qe7 s l)
 | [],s=>.refl s
 | a::r,s=>(QvI s a).trans (QhF r (Qe8 s a))
def fit(n:Int)(k:Nat):Prop:=(k<=7/\0<=n/\n<2 ^ (8*k))\/(k=8/\-9223372036854775808<=n/\n<=9223372036854775807)
def QvD(n:Int)(k:Nat)(h:fit n k):IntKind.i64.wrap ((u64N n % 2 ^ (8*k):Nat):Int)=n:=by
 rcases h with⟨hk,h0,h1⟩ | ⟨rfl,h1⟩
 ·rw [QpR n (8 * k) (by omega)]
  have hp:(2:Nat) ^ (8*k)<=2 ^ 56:=JF (by omega) (by omega)
  have e2:((2:Int) ^ (8*k))=((2 ^ (8*k):Nat):Int):=by rw[Int.natCast_pow]; rfl
  rw[e2] at h1
  generalize 2 ^ (8*k)=z at *
  have e3:u64N n=n.toNat:=by unfold u64N; omega
  rw[e3,Nat.mod_eq_of_lt (by omega)]; omega
 ·exact QrV n h1
def QGU(e:a=b):(⟨a,sh,ha⟩:RQ s)=⟨b,sh,hb⟩:=by subst e; rfl
def QcW(hp:Pre (Qn p n k) s)(hk:1<=k)(hf:fit n k)(ha:a<=s.length)(e:a=p.length):
 ∃ h,Qcq s k ⟨a,false,ha⟩=(n,⟨(Qn p n k).length,false,h⟩):=by
 subst e
 have hl:=hp.len
 have hl0:=hp.len
 have hk8:k<=8:=by rcases hf with h | h<;>omega
 rw[Qe] at hl
 rw[QjX rfl hl]
 obtain⟨t,rfl⟩:=hp
 refine⟨hl0,?_⟩
 dsimp only
 rw[QhV p t n k hk8 k (JB _),QvD n k hf]
 exact congrArg (Prod.mk n) (QGU (Qe _ _ _).symm)
def Qt2:∀ (l:List Int) {s p:List UInt8} (_:Pre (Qkx p l) s) (_:∀ n ∈ l,fit n 8) (out:List Int) {a:Nat} (ha:a<=s.length) (_:a = p.length),
 ∃ h,rdN s l.length out ⟨a,false,ha⟩=(out++l,⟨(Qkx p l).length,false,h⟩)
 | [],s,p,hp,_,out,a,ha,e=>⟨hp.len,by subst e; rw[JI]; rfl⟩
 | n :: r,s,p,hp,hf,out,a,ha,e=>by
   obtain⟨h1,e1⟩:=QcW (p:=p) (n:=n) (k:=8) ((Qcf r _).trans hp) (by omega) (hf n (by simp)) ha e
   obtain⟨h2,e2⟩:=Qt2 r (p:=Qn p n 8) hp (fun m hm=>hf m (JO _ hm)) (out++[n]) h1 rfl
   refine⟨h2,?_⟩
   rw[Jq,rdN,if_neg (by simp),e1,e2,JE]
   rfl
def Ql0(hp:Pre (Qkx (Qn p l.length k) l) s)(hk:1<=k)(hfk:fit l.length k)(hf:∀ n∈l,fit n 8)(ha:a<=s.length)(e:a=p.length):
 ∃ h,Qe0 s k ⟨a,false,ha⟩=(l,⟨(Qkx (Qn p l.length k) l).length,false,h⟩):=by
 obtain⟨h1,e1⟩:=QcW (p:=p) (n:=l.length) (k:=k) ((Qcf l _).trans hp) hk hfk ha e
 obtain⟨h2,e2⟩:=Qt2 l hp hf [] h1 rfl
 refine⟨h2,?_⟩
 unfold Qe0
 rw[e1,Jm,e2,J7]
def Tx.fits(t:Tx):Prop:=fit t.id 4/\fit t.st 1/\fit t.n 8/\fit t.b 8/\fit t.l.length 2/\fit t.s.length 1/\(∀ n∈t.l,fit n 8)/\∀ n∈t.s,fit n 8
def QBp(hp:Pre (Qe8 p t) s)(hf:t.fits)(ha:a<=s.length)(e:a=p.length):
 ∃ h,txS s ⟨a,false,ha⟩=(t,⟨(Qe8 p t).length,false,h⟩):=by
 obtain⟨f1,f2,f3,f4,f5,f6,f7,f8⟩:=hf
 obtain⟨id,st,n,b,q,v⟩:=t
 unfold Qe8 at hp |-
 dsimp only at *
 have p6:=(QT _ _ _).trans ((Qcf _ _).trans hp)
 have p5:=(QT _ _ _).trans ((Qcf _ _).trans p6)
 have p4:=(QT _ _ _).trans p5
 have p3:=(QT _ _ _).trans p4
 have p2:=(QT _ _ _).trans p3
 obtain⟨h1,e1⟩:=QcW (p:=p) (n:=id) (k:=4) (by first | exact p2 | exact p3 | exact p4 | exact p5) (by omega) f1 ha e
 obtain⟨h2,e2⟩:=QcW (p:=Qn p id 4) (n:=st) (k:=1) (by first | exact p2 | exact p3 | exact p4 | exact p5) (by omega) f2 h1 rfl
 obtain⟨h3,e3⟩:=QcW (p:=Qn (Qn p id 4) st 1) (n:=n) (k:=8) (by first | exact p2 | exact p3 | exact p4 | exact p5) (by omega) f3 h2 rfl
 obtain⟨h4,e4⟩:=QcW (p:=Qn (Qn (Qn p id 4) st 1) n 8) (n:=b) (k:=8) (by first | exact p2 | exact p3 | exact p4 | exact p5 | exact p6) (by omega) f4 h3 rfl
 obtain⟨h5,e5⟩:=Ql0 (p:=Qn (Qn (Qn (Qn p id 4) st 1) n 8) b 8) (l:=q) (k:=2) (by first | exact p6 | exact p5 | exact(QT _ _ _).trans ((Qcf _ _).trans hp)) (by omega) f5 f7 h4 rfl
 obtain⟨h6,e6⟩:=Ql0 (l:=v) (k:=1) hp (by omega) f6 f8 h5 rfl
 refine⟨h6,?_⟩
 simp only[txS,e1,e2,e3,e4,e5,e6]
def Qt0:∀ (l:List Tx) {s p:List UInt8} (_:Pre (Qe7 p l) s) (_:∀ t ∈ l,t.fits) (out:List Tx) {a:Nat} (ha:a<=s.length) (_:a = p.length),
 ∃ h,rdT s l.length out ⟨a,false,ha⟩=(out++l,⟨(Qe7 p l).length,false,h⟩)
 | [],s,p,hp,_,out,a,ha,e=>⟨hp.len,by subst e; rw[JI]; rfl⟩
 | n :: r,s,p,hp,hf,out,a,ha,e=>by
   obtain⟨h1,e1⟩:=QBp (p:=p) (t:=n) ((QhF r _).trans hp) (hf n (by simp)) ha e
   obtain⟨h2,e2⟩:=Qt0 r (p:=Qe8 p n) hp (fun m hm=>hf m (JO _ hm)) (out++[n]) h1 rfl
   refine⟨h2,?_⟩
   rw[Jq,rdT,if_neg (by simp),e1,e2,JE]
   rfl
def Qwp{lo n d:Int}(h:QpM l lo n d=true)(h0:0<=lo)(hn:n<=1099511627776):∀ x∈l,fit x 8:=fun x hx=>by
 obtain⟨i,hi,rfl⟩:=JQ hx
 unfold QpM at h
 rw[Jp] at h
 have:=(Qd1 l lo n d i).1 (h i (Js.2 hi))
 rw[Qf l i hi] at this
 exact .inr ⟨rfl,by omega,by omega⟩
def QyC{t:Tx}(h:t.okB=true):t.fits:=by
 simp only[Tx.okB,Tx.hdB,Je,Bool.or_eq_true,decide_eq_true_eq] at h
 obtain⟨⟨hh,h1⟩,h2⟩:=h
 refine⟨.inl ⟨by omega,by omega,by show t.id<4294967296; omega⟩,.inl ⟨by omega,by omega,by show t.st<256; omega⟩,.inr ⟨rfl,by omega,by omega⟩,.inr ⟨rfl,by omega,by omega⟩,.inl ⟨by omega,by omega,by show(t.l.length:Int)<65536; omega⟩,.inl ⟨by omega,by omega,by show(t.s.length:Int)<256; omega⟩,
  Qwp h1 (by omega) (by omega),Qwp h2 (by omega) (by omega)⟩
def QsX(h:QbD l=true):∀ t∈l,t.fits:=fun t ht=>by
 obtain⟨i,hi,rfl⟩:=JQ ht
 exact QyC (Qbz h hi)
def QFK(h:QbD l=true):QAA (QaY l)=(l,0):=by
 have hf:=QsX h
 have hl:=QeF h
 generalize hs:QaY l=s
 have hp:Pre (Qe7 (Qn [] l.length 2) l) s:=by rw[<- hs]; exact .refl _
 obtain⟨h1,e1⟩:=QcW (p:=[]) (n:=l.length) (k:=2) ((QhF l _).trans hp) (by omega) (.inl ⟨by omega,by omega,by show(l.length:Int)<65536; omega⟩) (Jc s.length) rfl
 obtain⟨h2,e2⟩:=Qt0 l hp hf [] h1 rfl
 have e3:rdA s=(l,⟨(Qe7 (Qn [] l.length 2) l).length,false,h2⟩):=by
  unfold rdA rq0
  rw[e1,Jm,e2,J7]
 unfold QAA
 rw[e3]
 dsimp only
 rw[if_neg (by simp),if_neg (by rw[<- hs]; unfold QaY; simp),if_neg (by rw[h]; decide)]
def Qb4(hp:Pre (Qn p n k) s)(hf:fit n k)(e:a=p.length):a+k<=s.length/\IntKind.i64.wrap (Qfi s a k)=n:=by
 subst e
 have hl:=hp.len
 have hk8:k<=8:=by rcases hf with h | h<;>omega
 rw[Qe] at hl
 refine⟨hl,?_⟩
 obtain⟨t,rfl⟩:=hp
 rw[QhV p t n k hk8 k (JB _),QvD n k hf]
def Pre.app(s u:List UInt8):Pre s (s++u):=⟨u,rfl⟩
def QvK(s:List UInt8)(r:Rw):Pre s (Qkf s r):=(QT _ _ _).trans ((QT _ _ _).trans (QT _ _ _))
def QhG:∀ (l:List Rw) (s:List UInt8),Pre s (Qeu s l)
 | [],s=>.refl s
 | a::r,s=>(QvK s a).trans (QhG r (Qkf s a))
def QvL(s:List UInt8)(r:Dt):Pre s (Qkg s r):=(QT _ _ _).trans ((QT _ _ _).trans (QT _ _ _))
def QhH:∀ (l:List Dt) (s:List UInt8),Pre s (Qds s l)
 | [],s=>.refl s
 | a::r,s=>(QvL s a).trans (QhH r (Qkg s a))
def Qpz:∀ (l:List Rw) (s:List UInt8) (i:Nat),i<=l.length->Pre (Qeu s (l.take i)) (Qeu s l)
 | [],s,i,_=>by rw[Kc]; exact .refl _
 | a::r,s,0,_=>QhG _ _
 | a::r,s,i+1,h=>Qpz r (Qkf s a) i (by simpa using h)
def QpA:∀ (l:List Dt) (s:List UInt8) (i:Nat),i<=l.length->Pre (Qds s (l.take i)) (Qds s l)
 | [],s,i,_=>by rw[Kc]; exact .refl _
 | a::r,s,0,_=>QhH _ _
 | a::r,s,i+1,h=>QpA r (Qkg s a) i (by simpa using h)
def QCC(h:ixB l=true)(hi:i<l.length):fit (l.getD i Rw0).lsn 8/\fit (l.getD i Rw0).im 8/\fit (l.getD i Rw0).at_ 8:=by
 unfold ixB at h
 simp only[Je,Jp,Js] at h
 have:=h.2 i hi
 unfold QD2 QrN at this
 simp only[Je,decide_eq_true_eq] at this
 exact⟨.inr ⟨rfl,by omega,by omega⟩,.inr ⟨rfl,by omega,by omega⟩,.inr ⟨rfl,by omega,by omega⟩⟩
def QFr(h:ixB l=true):IntKind.i64.wrap (Qfi (QcI l) 0 2)=l.length/\(QcI l).length=2+24*l.length:=by
 have h2:=QuY h
 exact⟨(Qb4 (p:=[]) (n:=l.length) (k:=2) (QhG l _) (.inl ⟨by omega,by omega,by show(l.length:Int)<65536; omega⟩) rfl).2,Qmu l⟩
def QFq(h:ixB l=true)(hi:i<l.length):IntKind.i64.wrap (Qfi (QcI l) (2+24*i) 8)=(l.getD i Rw0).lsn/\IntKind.i64.wrap (Qfi (QcI l) (10+24*i) 8)=(l.getD i Rw0).im/\IntKind.i64.wrap (Qfi (QcI l) (18+24*i) 8)=(l.getD i Rw0).at_:=by
 obtain⟨f1,f2,f3⟩:=QCC h hi
 have h1:=Qpz l (Qn [] l.length 2) (i+1) hi
 rw[QiY _ _ _ hi] at h1
 have hl:(Qeu (Qn [] l.length 2) (l.take i)).length=2+24*i:=by
  rw[Qe9,Qe,Jr,Ju]; omega
 have hs:Qeu (Qn [] l.length 2) l=QcI l:=rfl
 rw[hs] at h1
 generalize Qeu (Qn [] l.length 2) (l.take i)=p at *
 unfold Qkf at h1
 have h2:=(QT _ _ _).trans h1
 have h3:=(QT _ _ _).trans h2
 exact⟨(Qb4 h3 f1 hl.symm).2,(Qb4 h2 f2 (by rw[Qe]; omega)).2,(Qb4 h1 f3 (by rw[Qe,Qe]; omega)).2⟩
def Qpf(h:laB l n=true)(hi:i<l.length):0<=(l.getD i Dt0).pg/\(l.getD i Dt0).pg<n/\1<=(l.getD i Dt0).rc/\(l.getD i Dt0).rc<=(l.getD i Dt0).last/\(l.getD i Dt0).last<=1099511627776/\(i=0\/(l.getD (i-1) Dt0).pg<(l.getD i Dt0).pg):=by
 unfold laB at h
 rw[Jp] at h
 exact(QnW _ _ _).1 (h i (Js.2 hi))
def QAn (h:laB l n = true):∀ i:Nat,i < l.length->(i:Int)<=(l.getD i Dt0).pg
 | 0,hi=>(Qpf h hi).1
 | i + 1,hi=>by
   have h1:=QAn h i (by omega)
   have h2:=(Qpf h hi).2.2.2.2.2
   rcases h2 with h2 | h2
   ·omega
   ·rw[Nat.add_sub_cancel] at h2; omega
def QCz(h:laB l n=true)(hn:0<=n):(l.length:Int)<=n:=by
 rcases Nat.eq_zero_or_pos l.length with h0 | h0
 ·omega
 ·have h1:=QAn h (l.length - 1) (by omega)
  have h2:=(Qpf h (i:=l.length-1) (by omega)).2.1
  omega
def QmC(h:CkV c):(11+(QaY c.tx).length+17*c.dl.length<=(QaR c).length/\IntKind.i64.wrap (Qfi (QaR c) 0 2)=c.pg/\IntKind.i64.wrap (Qfi (QaR c) 2 4)=c.nx/\IntKind.i64.wrap (Qfi (QaR c) 6 4)=(QaY c.tx).length)/\((QaR c).take (10+(QaY c.tx).length)).drop 10=QaY c.tx/\IntKind.i64.wrap (Qfi (QaR c) (10+(QaY c.tx).length) 1)=c.dl.length/\(QaR c).drop (11+(QaY c.tx).length+17*c.dl.length)=QcI c.ix /\
 ∀ i,i<c.dl.length->IntKind.i64.wrap (Qfi (QaR c) (11+(QaY c.tx).length+17*i) 1)=(c.dl.getD i Dt0).pg/\IntKind.i64.wrap (Qfi (QaR c) (12+(QaY c.tx).length+17*i) 8)=(c.dl.getD i Dt0).rc/\IntKind.i64.wrap (Qfi (QaR c) (20+(QaY c.tx).length+17*i) 8)=(c.dl.getD i Dt0).last:=by
 obtain⟨⟨v1,v2⟩,⟨v3,v4⟩,v5,v6,v7,v8⟩:=h
 have hT:=Qpy v5
 have hL:=QCz v6 (by omega)
 have hs:QaR c=Qds (Qn (Qn (Qn (Qn [] c.pg 2) c.nx 4) (QaY c.tx).length 4++QaY c.tx) c.dl.length 1) c.dl++QcI c.ix:=rfl
 generalize QaR c=s at *
 generalize QaY c.tx=T at *
 have p5:Pre (Qds (Qn (Qn (Qn (Qn [] c.pg 2) c.nx 4) T.length 4++T) c.dl.length 1) c.dl) s:=⟨_,hs⟩
 have p4:=(QhH _ _).trans p5
 have p3:=(QT _ _ _).trans p4
 have p2:=(Pre.app _ _).trans p3
 have p1:=(QT _ _ _).trans p2
 have p0:=(QT _ _ _).trans p1
 have l2:(Qn (Qn (Qn [] c.pg 2) c.nx 4) T.length 4).length=10:=by rw[Qe,Qe,Qe]; rfl
 have l3:(Qn (Qn (Qn [] c.pg 2) c.nx 4) T.length 4++T).length=10+T.length:=by rw[Ja,l2]
 have l4:(Qn (Qn (Qn (Qn [] c.pg 2) c.nx 4) T.length 4++T) c.dl.length 1).length=11+T.length:=by rw[Qe,l3]; omega
 have l5:=Qfa c.dl (Qn (Qn (Qn (Qn [] c.pg 2) c.nx 4) T.length 4++T) c.dl.length 1)
 rw[l4] at l5
 refine⟨⟨by have:=p5.len; omega,(Qb4 p0 (.inl ⟨by omega,by omega,by show c.pg<65536; omega⟩) rfl).2,(Qb4 p1 (.inl ⟨by omega,by omega,by show c.nx<4294967296; omega⟩) (by rw[Qe]; rfl)).2,(Qb4 p2 (.inl ⟨by omega,by omega,by show(T.length:Int)<4294967296; omega⟩) (by rw[Qe,Qe]; rfl)).2⟩,?_,(Qb4 p4 (.inl ⟨by omega,by omega,by show(c.dl.length:Int)<256; omega⟩) l3.symm).2,?_,fun i hi=>?_⟩
 ·obtain ⟨u,hu⟩:=p3
  rw[hu,<- l3,J9,<- l2,Ka]
 ·rw[hs,<- l5,Ka]
 ·have h1:=(QpA c.dl (Qn (Qn (Qn (Qn [] c.pg 2) c.nx 4) T.length 4 ++ T) c.dl.length 1) (i + 1) hi).trans p5
  rw[QiZ _ _ _ hi] at h1
  have hl:=Qfa (c.dl.take i) (Qn (Qn (Qn (Qn [] c.pg 2) c.nx 4) T.length 4++T) c.dl.length 1)
  rw[l4,Jr] at hl
  obtain⟨a1,a2,a3,a4,a5,_⟩:=Qpf v6 hi
  clear l5 p5 p4 p3 p2 p1 p0 hs l4
  generalize Qds (Qn (Qn (Qn (Qn [] c.pg 2) c.nx 4) T.length 4++T) c.dl.length 1) (c.dl.take i)=p at *
  generalize c.dl.getD i Dt0=d at *
  unfold Qkg at h1
  have h2:=(QT _ _ _).trans h1
  have h3:=(QT _ _ _).trans h2
  exact⟨(Qb4 h3 (.inl ⟨by omega,by omega,by show d.pg<256; omega⟩) (by omega)).2,(Qb4 h2 (.inr ⟨rfl,by omega,by omega⟩) (by rw[Qe]; omega)).2,(Qb4 h1 (.inr ⟨rfl,by omega,by omega⟩) (by rw[Qe,Qe]; omega)).2⟩
@[go_sem] def niZ(a:Int×Int):DV:=.tup [.int .i64 a.1,.int .i64 a.2]
def Qem(s:List UInt8)(hs:s.length<=100000000)(a:Int)(k:Nat)(h1:1<=k)(h8:k<=8)(h0:0<=a):VCalls prog 193 [.pv (.str s),.int .i64 a,.int .i64 k] [] (QL niZ fun r=>(k<=4->0<=r.1/\r.1<4294967296)/\(k<=2->r.1<65536)/\(k<=1->r.1<256)/\(r.2=0->a+k<=s.length)/\(a+k<=s.length->r.1=IntKind.i64.wrap (Qfi s a.toNat k))):=by
 by_cases h:a+k<=s.length
 ·obtain ⟨n,rfl⟩:∃ n:Nat,a = n:=⟨a.toNat,by omega⟩
  refine(QiK s (by omega) n k ⟨h1,h8⟩ (by omega)).toS (IntKind.i64.wrap (Qfi s n k),0) rfl ⟨fun hk=>?_,fun hk=>?_,fun hk=>?_,fun _=>h,fun _=>by rw[Jm]⟩
  all_goals
   have e:=Qfh s n k (by omega)
   have h2:=Ql5 s n k
   dsimp only
   rw[e,IntKind.wrap_i64]
  ·have:(2:Nat) ^ (8 * k)<=2 ^ 32:=JF (by omega) (by omega)
   omega
  ·have:(2:Nat) ^ (8 * k)<=2 ^ 16:=JF (by omega) (by omega)
   omega
  ·have:(2:Nat) ^ (8 * k)<=2 ^ 8:=JF (by omega) (by omega)
   omega
 ·refine(QdO s a k (by omega) h0 h).toS (0,5) rfl ⟨fun _=>by decide,fun _=>by decide,fun _=>by decide,fun h=>by simp at h,fun h2=>absurd h2 h⟩
structure RwS(n:Nat)(s:List UInt8) where
 i:Nat
 l:List Rw
 hl:l.length=i
 hi:i<=n
 hx:∀ l0,ixB l0=true->s=QcI l0->l=l0.take i
@[go_sem] def ixD(a:List Rw×Int):DV:=.tup [.agg [.pv (.sl (fz Qcr a.1))],.int .i64 a.2]
def ixQ(s:List UInt8)(a:List Rw×Int):Prop:=a.1.length<=64/\(a.2=0->∀ l0,ixB l0=true->s=QcI l0->a.1=l0)
def Qx2(s:List UInt8)(hs:s.length<=100000000):VCalls prog 236 [.pv (.str s)] [] (QL ixD (ixQ s)):=by
 refine dk Tryz.func236 ?_
 have c1:=Qem s hs 0 2 (by omega) (by omega) (by omega)
 have c8:=fun a h=>Qem s hs a 8 (by omega) (by omega) h
 have e0:∀ e,e≠0->ixQ s ([],e):=fun e h=>⟨Jc _,fun h2=>absurd h2 h⟩
 (unfold Tryz.f236; refine rn trivial ?_)
 refine rn F ?_
 repeat' (first
  | with_reducible exact⟨⟩
  | (refine sG F ?_ ?_<;>intro hZ)
  | (refine sB F ?_ ?_<;>intro hZ)
  | (refine Qp (c1) rfl ?_; rintro⟨n,e⟩ hn; refine rn F ?_))
 all_goals first
  | exact⟨rfl,rfl,([],_),rfl,e0 _ (by decide)⟩
  | skip
 dsimp only at hn
 obtain⟨n,rfl⟩:∃ m:Nat,n=m:=⟨n.toNat,by omega⟩
 have hn2:n<65536:=by omega
 have hnl:∀ l0,ixB l0=true->s=QcI l0->n=l0.length/\s.length=2+24*n:=fun l0 h1 h2=>by
  have h3:=QFr h1
  have h4:=hn.2.2.2.2
  rw[h2] at h4 |-
  have h5:=h4 (by omega)
  rw[show(0:Int).toNat=0 from rfl] at h5
  omega
 clear hn
 refine VLoop.nilOwnC 1 0 266 3 rfl rfl ?_
 refine rn trivial ?_
 refine Qj (fun r:RwS n s=>⟨77,0,[(7,.int .i64 r.i),(6,.ptr 1 0),(4,.int .i64 n),(2,.ptr 0 0),(0,.pv (.str s))],[⟨36,true,[.pv (.slc [])]⟩,⟨36,true,[.own 2 3 0 r.i]⟩,⟨266,true,cells Qcr r.l⟩]⟩) (fun r=>n-r.i) ⟨0,[],rfl,Jc _,fun _ _ _=>by rw[J0]⟩ (gc [0,1,2]) ?_
 rintro⟨i,l,hl,hi,hx⟩
 dsimp only at hi |-
 subst hl
 have hb:(l.length+1)*24<=140737488355328:=by omega
 have F:=@hb
 refine rn F ?_
 repeat' (first
  | with_reducible exact⟨⟩
  | (refine sB F ?_ ?_<;>intro hZ)
  | (refine Qp (c8 (2+24*(l.length:Int)) (by omega)) rfl ?_; rintro⟨a1,e1⟩ h1; refine rn F ?_)
  | (refine Qp (c8 (10+24*(l.length:Int)) (by omega)) rfl ?_; rintro⟨a2,e2⟩ h2; refine rn F ?_)
  | (refine Qp (c8 (18+24*(l.length:Int)) (by omega)) rfl ?_; rintro⟨a3,e3⟩ h3; refine rn F ?_))
 ·have hl2:(l ++ [(⟨a1,a2,a3⟩:Rw)]).length = l.length + 1:=by simp
  have hil:l.length<n:=by omega
  have hx2:∀ l0,ixB l0=true->s=QcI l0->l++[(⟨a1,a2,a3⟩:Rw)]=l0.take (l.length+1):=fun l0 q1 q2=>by
   obtain⟨q3,q4⟩:=hnl l0 q1 q2
   have q5:=hx l0 q1 q2
   have hil2:l.length<l0.length:=by omega
   obtain⟨g1,g2,g3⟩:=QFq q1 hil2
   have z1:=h1.2.2.2.2 (by omega)
   have z2:=h2.2.2.2.2 (by omega)
   have z3:=h3.2.2.2.2 (by omega)
   dsimp only at z1 z2 z3
   rw[show((2:Int)+24*(l.length:Int)).toNat=2+24*l.length by omega,q2,g1] at z1
   rw[show((10:Int)+24*(l.length:Int)).toNat=10+24*l.length by omega,q2,g2] at z2
   rw[show((18:Int)+24*(l.length:Int)).toNat=18+24*l.length by omega,q2,g3] at z3
   rw[Jg hil2,z1,z2,z3,Qf _ _ hil2,<- q5]
  clear h1 h2 h3
  refine⟨⟨l.length+1,l++[⟨a1,a2,a3⟩],hl2,hil,hx2⟩,by dsimp only; omega,?_⟩
  exact(gc [0,1,5])
 have hix:=fun h:ixB l=true=>QuY h
 have c9:=QbM l (by omega)
 generalize ixB l=ok at *
 refine vl hb c9 ?_
 cases ok
 ·skip
  have F:=@hb
  refine rn F ?_
  exact⟨rfl,rfl,([],_),rfl,e0 _ (by decide)⟩
 ·skip
  have F:=@hb
  refine rn F ?_
  exact⟨rfl,rfl,(l,0),rfl,(hix rfl).2,fun _ l0 q1 q2=>by
   have q3:=(hnl l0 q1 q2).1
   have q4:=hx l0 q1 q2
   dsimp only
   rw[q4,Jn (by omega)]⟩
structure DtS(s:List UInt8)(n m:Nat) where
 i:Nat
 a:Int
 l:List Dt
 hl:l.length=i
 hi:i<=m
 ha:a=11+n+17*i
 hx:∀ c,CkV c->s=QaR c->l=c.dl.take i
def QFV(s:List UInt8)(a:Cp×Int):Prop:=smN 64 a.1.tx/\a.1.dl.length<=256/\a.1.ix.length<=64/\(a.2=0->s≠[]/\∀ c,CkV c->s=QaR c->a.1=c)
def Qyd(s:List UInt8)(hs:s.length<=3000000):VCalls prog 232 [.pv (.str s)] [] (QL QHU (QFV s)):=by
 refine dk Tryz.func232 ?_
 have c1:=Qem s (by omega) 0 2 (by omega) (by omega) (by omega)
 have c2:=Qem s (by omega) 2 4 (by omega) (by omega) (by omega)
 have c3:=Qem s (by omega) 6 4 (by omega) (by omega) (by omega)
 have c4:=fun a h=>Qem s (by omega) a 1 (by omega) (by omega) h
 have c8:=fun a h=>Qem s (by omega) a 8 (by omega) (by omega) h
 have err:∀ e,e≠0->QFV s (Cp0,e):=fun e h=>⟨Q3 _,Jc _,Jc _,fun h2=>absurd h2 h⟩
 (unfold Tryz.f232; refine rn trivial ?_)
 refine Qp c1 rfl ?_
 rintro⟨pg,e1⟩ h1
 refine rn trivial ?_
 refine Qp c2 rfl ?_
 rintro⟨nx,e2⟩ h2
 refine rn trivial ?_
 refine Qp c3 rfl ?_
 rintro⟨n,e3⟩ h3
 have hA:∀ c,CkV c->s=QaR c->pg=c.pg/\nx=c.nx/\n=(QaY c.tx).length:=fun c q1 q2=>by
  obtain⟨⟨g1,g2,g3,g4⟩,_⟩:=QmC q1
  rw[<- q2] at g1 g2 g3 g4
  exact⟨(h1.2.2.2.2 (by omega)).trans g2,(h2.2.2.2.2 (by omega)).trans g3,(h3.2.2.2.2 (by omega)).trans g4⟩
 dsimp only at h3
 obtain⟨n,rfl⟩:∃ m:Nat,n=m:=⟨n.toNat,by omega⟩
 have hn:n<4294967296:=by omega
 clear h1 h2 h3
 refine rn F ?_
 repeat' (first
  | with_reducible exact⟨⟩
  | (refine sG F ?_ ?_<;>intro hZ)
  | (refine sB F ?_ ?_<;>intro hZ))
 all_goals first | exact⟨rfl,rfl,(Cp0,5),rfl,err _ (by decide)⟩ | skip
 have hns:n+10<=s.length:=by omega
 refine Qp (c4 (10+(n:Int)) (by omega)) rfl ?_
 rintro⟨m,e4⟩ h4
 have hM:∀ c,CkV c->s=QaR c->m=c.dl.length:=fun c q1 q2=>by
  obtain⟨_,_,q3⟩:=hA c q1 q2
  obtain⟨⟨g0,_⟩,_,g1,_⟩:=QmC q1
  rw[<- q2,<- (by omega:n=(QaY c.tx).length)] at g0 g1
  have:=h4.2.2.2.2 (by omega)
  rw[show((10:Int)+(n:Int)).toNat=10+n by omega] at this
  exact this.trans g1
 dsimp only at h4
 obtain⟨m,rfl⟩:∃ k:Nat,m=k:=⟨m.toNat,by omega⟩
 have hm:m<256:=by omega
 clear h4
 refine rn F ?_
 repeat' (first
  | with_reducible exact⟨⟩
  | (refine sG F ?_ ?_<;>intro hZ)
  | (refine sB F ?_ ?_<;>intro hZ))
 all_goals first | exact⟨rfl,rfl,(Cp0,5),rfl,err _ (by decide)⟩ | skip
 have hns2:11+n+17*m<=s.length:=by omega
 refine VLoop.nilOwnC 1 3 167 3 rfl rfl ?_
 refine rn trivial ?_
 have hTX:∀ c,CkV c->s=QaR c->(s.take (10+(n:Int)).toNat).drop 10=QaY c.tx:=fun c q1 q2=>by
  obtain⟨_,_,q3⟩:=hA c q1 q2
  obtain⟨_,g1,_⟩:=QmC q1
  rw[<- q2,<- (by omega:n=(QaY c.tx).length)] at g1
  rw[show((10:Int)+(n:Int)).toNat=10+n by omega]
  exact g1
 generalize htx:(s.take (10+(n:Int)).toNat).drop 10=txs at *
 have htl:txs.length<=3000000:=by rw[<- htx,JX,Jr]; omega
 refine Qj (fun r:DtS s n m=>⟨130,0,[(11,.int .i64 r.i),(10,.int .i64 m),(9,.int .i64 r.a),(8,.pv (.str txs)),(4,.ptr 1 0),(2,.ptr 0 0),(0,.pv (.str s))],[⟨189,true,[.int .i64 0,.int .i64 0,.pv (.slc []),.pv (.slc []),.pv (.slc [])]⟩,⟨189,true,[.int .i64 pg,.int .i64 nx,.pv (.slc []),.own 2 3 0 r.i,.pv (.slc [])]⟩,⟨167,true,cells Qc6 r.l⟩]⟩) (fun r=>m-r.i) ⟨0,10+(n:Int)+1,[],rfl,Jc _,by omega,fun _ _ _=>by rw[J0]⟩ (gc [0,1,2]) ?_
 rintro⟨i,a,l,hl,hi,ha,hx⟩
 dsimp only
 subst hl
 have hb:(l.length+1)*24<=140737488355328:=by omega
 by_cases hil:l.length<m
 ·skip
  have F:=@hb
  refine rn F ?_
  repeat' (first
   | with_reducible exact⟨⟩
   | (refine Qp (c4 a (by omega)) rfl ?_; rintro⟨a1,e1⟩ h1; refine rn F ?_)
   | (refine Qp (c8 (a+1) (by omega)) rfl ?_; rintro⟨a2,e2⟩ h2; refine rn F ?_)
   | (refine Qp (c8 (a+9) (by omega)) rfl ?_; rintro⟨a3,e3⟩ h3; refine rn F ?_))
  have hl2:(l++[(⟨a1,a2,a3⟩:Dt)]).length=l.length+1:=by simp
  have hx2:∀ c,CkV c->s=QaR c->l++[(⟨a1,a2,a3⟩:Dt)]=c.dl.take (l.length+1):=fun c q1 q2=>by
   obtain⟨_,_,q3⟩:=hA c q1 q2
   have q4:=hM c q1 q2
   have q5:=hx c q1 q2
   have hil2:l.length<c.dl.length:=by omega
   obtain⟨⟨g0,_⟩,_,_,_,gr⟩:=QmC q1
   obtain⟨g1,g2,g3⟩:=gr _ hil2
   rw[<- q2,<- (by omega:n=(QaY c.tx).length)] at g0 g1 g2 g3
   have z1:=h1.2.2.2.2 (by omega)
   have z2:=h2.2.2.2.2 (by omega)
   have z3:=h3.2.2.2.2 (by omega)
   dsimp only at z1 z2 z3
   rw[show a.toNat=11+n+17*l.length by omega,g1] at z1
   rw[show(a+1).toNat=12+n+17*l.length by omega,g2] at z2
   rw[show(a+9).toNat=20+n+17*l.length by omega,g3] at z3
   rw[Jg hil2,z1,z2,z3,Qf _ _ hil2,<- q5]
  clear h1 h2 h3
  refine⟨⟨l.length+1,a+17,l++[⟨a1,a2,a3⟩],hl2,hil,by rw[ha]; omega,hx2⟩,by dsimp only; omega,?_⟩
  exact(gc [0,1,5])
 obtain rfl:m=l.length:=by omega
 have c9:=Qqr txs htl
 have hq:smN 64 (QAA txs).1:=by
  unfold QAA
  split
  ·exact Q3 _
  split
  ·exact Q3 _
  split
  ·exact Q3 _
  ·rename_i h; exact Qgo (by simpa using h)
 have hD:∀ c,CkV c->s=QaR c->(QAA txs).1=c.tx:=fun c q1 q2=>by rw[hTX c q1 q2,QFK q1.2.2.1]
 generalize QAA txs=D at *
 obtain⟨tx,et⟩:=D
 dsimp only at hq hD
 have hX:∀ c,CkV c->s=QaR c->s.drop a.toNat=QcI c.ix:=fun c q1 q2=>by
  obtain⟨_,_,q3⟩:=hA c q1 q2
  have q4:=hM c q1 q2
  obtain⟨_,_,_,g1,_⟩:=QmC q1
  rw[<- q2,<- (by omega:n=(QaY c.tx).length),<- (by omega:l.length=c.dl.length)] at g1
  rw[show a.toNat=11+n+17*l.length by omega]
  exact g1
 have ha2:0<=a/\a<=s.length:=by omega
 obtain⟨a,rfl⟩:∃ k:Nat,a=k:=⟨a.toNat,by omega⟩
 rw[Jm] at hX
 have hsl:(s.drop a).length<=100000000:=by rw[JX]; omega
 have hal:a<=s.length:=by omega
 have F:=(Jb @hb @hal)
 refine rn F ?_
 repeat' (first
  | with_reducible exact⟨⟩
  | (refine sB F ?_ ?_<;>intro hZ)
  | refine vp F (c9) ?_
  | (refine Qp (Qx2 _ hsl) rfl ?_; rintro⟨ix,ei⟩ hi2; refine rn F ?_))
 all_goals first | exact⟨rfl,rfl,(Cp0,_),rfl,err _ (by assumption)⟩ | skip
 unfold ixQ at hi2
 dsimp only at hi2
 have c10:=QiN ⟨pg,nx,tx,l,ix⟩ ⟨hq.mono (by decide),by dsimp only; omega,hi2.1⟩
 have F:=@hb
 refine rn F ?_
 repeat' (first
  | with_reducible exact⟨⟩
  | (refine sB F ?_ ?_<;>intro hZ)
  | (refine Qw9 (c10) ?_ (fun _=>rfl) ?_; (focus (refine rd F)); rintro b -; refine rn F ?_))
 all_goals first
  | exact⟨rfl,rfl,(Cp0,_),rfl,err _ (by decide)⟩
  | skip
 refine⟨rfl,rfl,(⟨pg,nx,tx,l,ix⟩,0),rfl,hq,by dsimp only; omega,hi2.1,fun _=>⟨fun h=>by rw[h] at hns; simp at hns,fun c q1 q2=>?_⟩⟩
 obtain⟨q3,q4,_⟩:=hA c q1 q2
 have q5:=hx c q1 q2
 have q6:=hD c q1 q2
 have q7:=hi2.2 (by assumption) c.ix q1.2.2.2.2.1 (hX c q1 q2)
 have q8:=hM c q1 q2
 rw[Jn (by omega)] at q5
 dsimp only
 rw[q3,q4,q6,q7,q5]
def Qrt{c:Ce}(h:c.no=true):c.data.length<=12:=by
 unfold Ce.no at h
 simp only[Je,beq_iff_eq] at h
 rw[h.2]; exact Jc _
def QzH{c:Ce}(h:c.okB=true):c.data.length<=12:=by
 unfold Ce.okB at h
 simp only[Je,decide_eq_true_eq] at h
 exact h.1
def QeV{e:E}(h:e.okB=true):e.c.b.data.length<=12/\e.c.a.data.length<=12/\e.blob.length<=8192:=by
 unfold E.okB at h
 simp only[Je] at h
 have h2:=h.2
 clear h
 unfold E.kindB at h2
 have nb:∀ {l:List UInt8},l==[]->l.length<=8192:=fun h=>by rw[beq_iff_eq] at h; rw[h]; exact Jc _
 split at h2
 ·simp only [Je,Ch.okB] at h2
  exact⟨QzH h2.2.1.2,QzH h2.2.2,nb h2.1.2⟩
 split at h2
 ·simp only [Je,Ch.okB] at h2
  exact⟨QzH h2.2.1.2,QzH h2.2.2,nb h2.1.1.1.2⟩
 split at h2
 ·simp only [Je,Ch.no] at h2
  exact⟨Qrt h2.2.1.2,Qrt h2.2.2,nb h2.1.2⟩
 split at h2
 ·simp only [Je,Ch.no,decide_eq_true_eq] at h2
  exact⟨Qrt h2.2.1.2,Qrt h2.2.2,h2.1.2⟩
 split at h2
 ·simp only [Je,Ch.ix] at h2
  exact⟨Qrt h2.2.1.1.1.2,Qrt h2.2.1.1.2,nb h2.1.2⟩
 ·cases h2
def Qaq(s:List UInt8)(c:Ce):List UInt8:=if c.set=true then Qn s c.data.length 1++c.data else Qn s 255 1
def QbO(s:List UInt8)(c:Ce):(Qaq s c).length<=s.length+1+c.data.length:=by
 unfold Qaq; split
 ·rw[Ja,Qe]; exact JB _
 ·rw[Qe]; omega
def Qlu(s:List UInt8)(hs:s.length<=100000000)(c:Ce)(hc:c.data.length<=1000000):VCalls prog 223 [.pv (.str s),.agg c.d] [] (Ret (.pv (.str (Qaq s c)))):=by
 refine dd Tryz.func223 ?_
 have c1:=QY s (by omega) 255 1 (by omega) (by omega)
 have c2:=QY s (by omega) c.data.length 1 (by omega) (by omega)
 have e:Qaq s c=if c.set=true then Qn s c.data.length 1++c.data else Qn s 255 1:=rfl
 have hadd:=Qdg (a:=Qn s c.data.length 1) (b:=c.data) (by rw[Qe]; omega)
 generalize Qaq s c=r at *
 (unfold Tryz.f223; refine rn trivial ?_)
 have F:=@hadd
 refine rn F ?_
 repeat' (first
  | with_reducible exact⟨⟩
  | (refine sB F ?_ ?_<;>intro hZ)
  | refine vp F (c1) ?_
  | refine vp F (c2) ?_
  | (refine Qd (id:=3) [0,1,2,3,5,6] [⟨[],[],4,[1,2,5,6],[7]⟩,⟨[],[],8,[],[]⟩] (by kernel_rfl) (by kernel_rfl) ?_; refine rn F ?_))
 all_goals first | (first | (rw[e]; simp(disch:=first | assumption | omega | exact rfl | exact nf (by assumption) | exact nt (by assumption) | decide | fail) only[if_pos,if_neg]; first | done | rfl) | (rw[e]; simp(disch:=first | assumption | omega | exact rfl | exact nf (by assumption) | exact nt (by assumption) | decide | (simp_all; done) | fail) only[if_pos,if_neg]; first | done | rfl)) | skip
def Qa7(e:E):List UInt8:=Qn (Qn (Qn (Qn (Qn (Qn (Qn (Qn [] e.lsn 8) e.kind 1) e.tx 4) e.ptx 8) e.ppg 8) e.ref 8) e.c.pg 4) e.c.sl 1
def QdW(e:E):(Qa7 e).length=42:=by unfold Qa7; simp only[Qe,Ju]
def Qmw(e:E):List UInt8:=Qn (Qaq (Qaq (Qa7 e) e.c.b) e.c.a) e.blob.length 4++e.blob
def Qiq(e:E):List UInt8×Int:=if e.okB=true then (Qmw e,0) else ([],12)
def QB0(e:E):VCalls prog 191 [.agg e.d] [] (Ret (.tup [.pv (.str (Qiq e).1),.int .i64 (Qiq e).2])):=by
 refine dd Tryz.func191 ?_
 have c1:=QcQ e
 unfold Qiq
 cases hv:e.okB
 ·rw [hv] at c1
  (unfold Tryz.f191; refine rn trivial ?_)
  refine rn F ?_
  repeat' (first
   | with_reducible exact⟨⟩
   | refine vp F (c1) ?_)
  all_goals rfl
 rw[hv] at c1
 obtain⟨l1,l2,l3⟩:=QeV hv
 have n1:=QbO (Qa7 e) e.c.b
 have n2:=QbO (Qaq (Qa7 e) e.c.b) e.c.a
 rw[QdW] at n1
 have p9:=Qlu (Qa7 e) (by rw[QdW]; omega) e.c.b (by omega)
 have p10:=Qlu (Qaq (Qa7 e) e.c.b) (by omega) e.c.a (by omega)
 have p11:=QY (Qaq (Qaq (Qa7 e) e.c.b) e.c.a) (by omega) e.blob.length 4 (by omega) (by omega)
 have hadd:=Qdg (a:=Qn (Qaq (Qaq (Qa7 e) e.c.b) e.c.a) e.blob.length 4) (b:=e.blob) (by rw[Qe]; omega)
 have hh:Qa7 e=Qn (Qn (Qn (Qn (Qn (Qn (Qn (Qn [] e.lsn 8) e.kind 1) e.tx 4) e.ptx 8) e.ppg 8) e.ref 8) e.c.pg 4) e.c.sl 1:=rfl
 have q:=fun(s:List UInt8) (hs:s.length<=1000) (n:Int) (k:Nat) (h1:1<=k) (h8:k<=8)=>QY s (by omega) n k h1 h8
 (unfold Tryz.f191; refine rn trivial ?_)
 have F:=@hh.symm
 refine rn F ?_
 repeat' (first
  | with_reducible exact⟨⟩
  | refine vp F (c1) ?_
  | refine vp F (q _ (by simp[Qe]) _ 8 (by omega) (by omega)) ?_
  | refine vp F (q _ (by simp[Qe]) _ 1 (by omega) (by omega)) ?_
  | refine vp F (q _ (by simp[Qe]) _ 4 (by omega) (by omega)) ?_
  | (refine Qd (id:=11) [0,1,2,3,5,6,7] [⟨[],[],4,[1,2,5,6,7],[]⟩,⟨[],[],8,[0,1,2,3,5,6],[]⟩,⟨[],[],9,[],[]⟩] (by kernel_rfl) (by kernel_rfl) ?_; refine rn F ?_))
 have F:=@hadd
 refine rn F ?_
 repeat' (first
  | with_reducible exact⟨⟩
  | refine vp F (p9) ?_
  | refine vp F (p10) ?_
  | refine vp F (p11) ?_
  | (refine Qd (id:=12) [0,1,2,3,5,6] [⟨[],[],4,[1,2,5,6],[7]⟩,⟨[],[],8,[],[]⟩,⟨[],[],9,[],[]⟩] (by kernel_rfl) (by kernel_rfl) ?_; refine rn F ?_))
 all_goals rfl
def Qmv(e:E):(Qiq e).1.length<=9000:=by
 unfold Qiq
 split
 ·rename_i hv
  obtain⟨l1,l2,l3⟩:=QeV hv
  have n1:=QbO (Qa7 e) e.c.b
  have n2:=QbO (Qaq (Qa7 e) e.c.b) e.c.a
  rw[QdW] at n1
  unfold Qmw
  dsimp only
  rw[Ja,Qe]
  omega
 ·exact Jc _
def QtN(e:E):VCalls prog 147 [.agg e.d] [] (Ret (.pv (.str (frm (Qiq e).1)))):=by
 refine dd Tryz.func147 ?_
 have c1:=QB0 e
 have hl:=Qmv e
 generalize Qiq e=r at *
 have c2:=QoN r.1 (by omega)
 (unfold Tryz.f147; refine rn trivial ?_)
 refine rn F ?_
 repeat' (first
  | with_reducible exact⟨⟩
  | refine vp F (c1) ?_
  | refine vp F (c2) ?_)
 all_goals rfl
def Qdq(n:Int):List UInt8:=frm (Qn [80,77,76,71] n 8)
def Qx5(n:Int):VCalls prog 146 [.int .i64 n] [] (Ret (.pv (.str (Qdq n)))):=by
 refine dd Tryz.func146 ?_
 have c1:=QY [80,77,76,71] (by simp) n 8 (by omega) (by omega)
 have c2:=QoN (Qn [80,77,76,71] n 8) (by rw[Qe]; simp)
 (unfold Tryz.f146; refine rn trivial ?_)
 refine rn F ?_
 repeat' (first
  | with_reducible exact⟨⟩
  | refine vp F (c1) ?_
  | refine vp F (c2) ?_)
 all_goals rfl
def frE(e:E):List UInt8:=frm (Qiq e).1
def Qvt(e:E):(frE e).length<=9008:=by
 have:=Qmv e
 unfold frE frm
 split
 ·rw[Qe,Ja,Qe,Ju]; omega
 ·exact Jc _
def QrP(l:List E)(d:Int):List UInt8:=(l.filter fun e=>decide (e.lsn<=d)).flatMap frE
def QtP(l:List E)(d:Int):List UInt8:=(l.filter fun e=>!decide (e.lsn<=d)).flatMap frE
def QvM(l:List E)(d:Int)(i:Nat)(h:i<l.length):QrP (l.take (i+1)) d=if (l.getD i E0).lsn<=d then QrP (l.take i) d++frE (l.getD i E0) else QrP (l.take i) d:=by
 unfold QrP
 rw[Jg h,JT,J1,Qf l i h]
 split<;>rename_i hx<;>simp[hx]
def QtO(l:List E)(d:Int)(i:Nat)(h:i<l.length):QtP (l.take (i+1)) d=if (l.getD i E0).lsn<=d then QtP (l.take i) d else QtP (l.take i) d++frE (l.getD i E0):=by
 unfold QtP
 rw[Jg h,JT,J1,Qf l i h]
 split<;>rename_i hx<;>simp[hx]
def QAs (l:List E):(l.flatMap frE).length<=9008 * l.length:=by
 induction l with
 | nil=>simp
 | cons a r ih =>
   have:=Qvt a
   rw[List.flatMap_cons,Ja,Jq]; omega
def QpB(l:List E)(d:Int):(QrP l d).length<=9008*l.length:=
 Jk (QAs _) (J2 _ (JY _ _))
def QoQ(l:List E)(d:Int):(QtP l d).length<=9008*l.length:=
 Jk (QAs _) (J2 _ (JY _ _))
def Qmi(n:Int):(Qdq n).length<=9008:=by
 unfold Qdq frm
 split
 ·rw[Qe,Ja,Qe,Qe,Ju]; simp
 ·exact Jc _
def Qdx(x:Lg)(torn:Int):List UInt8:=if lgB x=true then Qdq x.f++QrP x.es x.d++(QtP x.es x.d).take torn.toNat else []
def QoR(x:Lg)(hx:x.es.length<=9223372036854775807)(torn:Int):VCalls prog 99 [.agg x.c,.int .i64 torn] [] (Ret (.pv (.str (Qdx x torn)))):=by
 refine dd Tryz.func99 ?_
 have c1:=Qax x hx
 have c2:=Qx5 x.f
 have hh:=Qmi x.f
 unfold Qdx
 (unfold Tryz.f99; refine rn trivial ?_)
 cases hv:lgB x
 ·rw [hv] at c1
  refine rn F ?_
  repeat' (first
   | with_reducible exact⟨⟩
   | refine vp F (c1) ?_)
  all_goals rfl
 rw[hv] at c1
 have hd:=QaG hv
 simp only[Lg.hd] at hd
 refine rn F ?_
 repeat' (first
  | with_reducible exact⟨⟩
  | refine vp F (c1) ?_
  | refine vp F (c2) ?_)
 generalize Qdq x.f=H at *
 refine Qj (fun s:To x.es.length=>⟨55,0,[(7,.int .i64 s.i),(6,.pv (.str (QtP (x.es.take s.i) x.d))),(5,.pv (.str (H++QrP (x.es.take s.i) x.d))),(2,.ptr 0 0),(1,.int .i64 torn)],[⟨26,true,x.c⟩]⟩) (fun s=>x.es.length-s.i) ⟨0,Jc _⟩ (by simp only[J0]; rw[show QrP [] x.d=[] from rfl,show QtP [] x.d=[] from rfl,JI]; exact(gc [0])) ?_
 rintro⟨i,hi⟩
 dsimp only
 have hg:=fun h:i<x.es.length=>Qmm x.es i h
 have c3:=QtN (x.es.getD i E0)
 have hf:=Qvt (x.es.getD i E0)
 have hs1:=QvM x.es x.d i
 have hs2:=QtO x.es x.d i
 have l1:=QpB (x.es.take i) x.d
 have l2:=QoQ (x.es.take i) x.d
 rw[Jr] at l1 l2
 have hfr:frm (Qiq (x.es.getD i E0)).1=frE (x.es.getD i E0):=rfl
 rw[hfr] at c3
 have a1:=Qdg (a:=H++QrP (x.es.take i) x.d) (b:=frE (x.es.getD i E0)) (by rw[Ja]; omega)
 have a2:=Qdg (a:=QtP (x.es.take i) x.d) (b:=frE (x.es.getD i E0)) (by omega)
 have hH:(H++QrP (x.es.take i) x.d).length=H.length+(QrP (x.es.take i) x.d).length:=Ja
 have F:=(Jb @hg (Jb @a1 @a2))
 refine rn F ?_
 repeat' (first
  | with_reducible exact⟨⟩
  | (refine sB F ?_ ?_<;>intro hZ)
  | refine vp F (c3) ?_
  | (refine Qd (id:=7) [0,1,2,3,4,5,6,7,8] [] (by kernel_rfl) (by kernel_rfl) ?_; refine rn F ?_))
 ·have d1:=hs1 (by omega)
  have d2:=hs2 (by omega)
  rw[if_pos (by first | assumption | omega)] at d1 d2
  refine⟨⟨i+1,by omega⟩,by dsimp only; omega,?_⟩
  dsimp only
  rw[d1,d2,<- JE]
  exact(gc [0])
 ·have d1:=hs1 (by omega)
  have d2:=hs2 (by omega)
  rw[if_neg (by first | assumption | omega)] at d1 d2
  refine⟨⟨i+1,by omega⟩,by dsimp only; omega,?_⟩
  dsimp only
  rw[d1,d2]
  exact(gc [0])
 ·rw [Jn (show x.es.length<=i by omega)]
  congr 3
  generalize QtP x.es x.d=R
  by_cases h0:0 > torn
  ·rw [if_pos h0]
   rw[if_neg (by omega),show torn.toNat=(0:Int).toNat by omega]
  ·rw [if_neg h0]
   by_cases h1:(R.length:Int)<torn
   ·rw[if_pos h1,Jm,List.take_length,Jn (by omega)]
   ·rw[if_neg h1]
@[go_sem] def ltD(a:Cp×Int×Bool):DV:=.tup [.agg a.1.d,.int .i64 a.2.1,.bool a.2.2]
def QFh(h:lgB x=true):∀ i,i<x.es.length->(x.es.getD i E0).blob.length<=8192:=by
 unfold lgB at h
 simp only[Je,Jp,Js] at h
 intro i hi
 have:=h.2 i hi
 simp only[lgC,Je] at this
 exact(QeV this.2).2.2
def cpQ(c:Cp):Prop:=smN 64 c.tx/\c.dl.length<=256/\c.ix.length<=64
def QGf:cpQ Cp0:=⟨Q3 _,Jc _,Jc _⟩
def QIr(x:Lg)(a:Cp×Int×Bool):Prop:=cpQ a.1/\(a.2.2=true->∃ i,i<x.es.length/\(x.es.getD i E0).kind=6/\a.2.1=(x.es.getD i E0).lsn/\(x.es.getD i E0).blob≠[]/\∀ c,CkV c->(x.es.getD i E0).blob=QaR c->a.1=c)
def QtI(x:Lg)(hx:x.es.length<=1000000):VCalls prog 227 [.agg x.c] [] (QL ltD (QIr x)):=by
 refine dk Tryz.func227 ?_
 have c1:=Qax x (by omega)
 (unfold Tryz.f227; refine rn trivial ?_)
 cases hv:lgB x
 ·rw [hv] at c1
  refine rn F ?_
  repeat' (first
   | with_reducible exact⟨⟩
   | refine vp F (c1) ?_)
  exact⟨rfl,rfl,(Cp0,0,false),rfl,QGf,fun h=>by simp at h⟩
 rw[hv] at c1
 have hs:=QFh hv
 refine rn F ?_
 repeat' (first
  | with_reducible exact⟨⟩
  | refine vp F (c1) ?_)
 refine Qj (fun r:{r:To x.es.length×Int // r.2=(r.1.i:Int)-1}=>⟨47,0,[(5,.int .i64 r.1.2),(2,.ptr 1 0),(1,.ptr 0 0)],[⟨26,true,x.c⟩,⟨189,true,Zc⟩]⟩) (fun r=>r.1.1.i) ⟨(⟨x.es.length,JB _⟩,(x.es.length:Int)-1),rfl⟩ (gc [0,1]) ?_
 rintro⟨⟨⟨k,hk⟩,j⟩,hj⟩
 dsimp only at hj |-
 unfold Zc
 by_cases h0:k=0
 ·subst h0
  have hj2:¬ j >= 0:=by omega
  have F:=@hj2
  refine rn F ?_
  exact⟨rfl,rfl,(Cp0,0,false),rfl,QGf,fun h=>by simp at h⟩
 obtain⟨i,rfl⟩:∃ i,k=i+1:=⟨k-1,by omega⟩
 obtain rfl:j=(i:Int):=by omega
 have hg:=Qmm x.es i (by omega)
 have hb:=hs i (by omega)
 have c2:=Qyd (x.es.getD i E0).blob (by omega)
 have F:=@hg
 refine rn F ?_
 repeat' (first
  | with_reducible exact⟨⟩
  | (refine sB F ?_ ?_<;>intro hZ)
  | (refine Qp (c2) rfl ?_; rintro⟨c,e⟩ hc; refine rn F ?_)
  | (refine Qd (id:=9) [0,1,2,3,4,5,6] [⟨[],[],7,[1,2,3,4,5,6],[]⟩,⟨[],[],8,[],[]⟩,⟨[],[],9,[],[]⟩] (by kernel_rfl) (by kernel_rfl) ?_; refine rn F ?_))
 all_goals first
  | exact⟨⟨(⟨i,by omega⟩,(i:Int)-1),rfl⟩,by dsimp only; omega,(gc [0,1])⟩
  | exact⟨rfl,rfl,(c,_,true),rfl,⟨hc.1,hc.2.1,hc.2.2.1⟩,fun _=>⟨i,by omega,by first | assumption | omega,rfl,hc.2.2.2 (by first | assumption | (dsimp only; omega))⟩⟩
  | skip
def DyA(l:List Dt)(e:E)(ch:Bool)(y:Dt):Prop:=(y∈l/\y.pg≠e.c.pg)\/(y.pg=e.c.pg/\ch=true/\y.last=e.lsn)\/(y.pg=e.c.pg/\ch=false/\∃ z∈l,z.pg=e.c.pg/\z.last=y.last/\e.ref<z.last)
structure DyP(l:List Dt)(e:E)(ch:Bool)(i:Nat)(d:Bool)(out:List Dt):Prop where
 ha:∀ y∈out,DyA l e ch y
 hb:∀ y∈l.take i,y.pg≠e.c.pg->y∈out
 hc:d=true->ch=true->∃ y∈out,y.pg=e.c.pg
def DyP.ap(h:DyP l e ch i d out)(hi:i<l.length)(d':Bool)(ys:List Dt)(hA:∀ y∈ys,DyA l e ch y)(hx:(l.getD i Dt0).pg≠e.c.pg->l.getD i Dt0∈ys)(hd:d'=true->ch=true->d=true\/∃ y∈ys,y.pg=e.c.pg):DyP l e ch (i+1) d' (out++ys):=by
 refine⟨fun y hy=>?_,fun y hy hn=>?_,fun a b=>?_⟩
 ·rcases Ji.1 hy with hy | hy
  ·exact h.ha y hy
  ·exact hA y hy
 ·rw [Jg hi] at hy
  rcases Ji.1 hy with hy | hy
  ·exact Jl _ (h.hb y hy hn)
  ·rw [Jf.1 hy] at hn |-
   rw[Qf _ _ hi] at hx
   exact JM _ (hx hn)
 ·rcases hd a b with q | ⟨y,q1,q2⟩
  ·obtain ⟨y,q1,q2⟩:=h.hc q b
   exact⟨y,Jl _ q1,q2⟩
  ·exact⟨y,JM _ q1,q2⟩
def DyP.p0(h:DyP l e ch i d out)(hi:i<l.length)(d':Bool)(hx:(l.getD i Dt0).pg=e.c.pg)(hc:ch=false):DyP l e ch (i+1) d' out:=by
 have:=h.ap hi d' [] (fun y hy=>by simp at hy) (fun q=>absurd hx q) (fun _ b=>by rw[hc] at b; cases b)
 rwa [JI] at this
def DyP.p1(h:DyP l e ch i d out)(hi:i<l.length)(d':Bool)(y:Dt)(hA:DyA l e ch y)(hx:(l.getD i Dt0).pg≠e.c.pg->l.getD i Dt0=y)(hd:d'=true->ch=true->d=true\/y.pg=e.c.pg):DyP l e ch (i+1) d' (out++[y]):=
 h.ap hi d' [y] (fun z hz=>by rw[Jf.1 hz]; exact hA) (fun q=>by rw[hx q]; simp) fun a b=>(hd a b).imp id fun q=>⟨y,by simp,q⟩
def DyP.p2(h:DyP l e ch i d out)(hi:i<l.length)(y z:Dt)(hA:DyA l e ch y)(hB:DyA l e ch z)(hx:(l.getD i Dt0).pg≠e.c.pg->l.getD i Dt0=z)(hy:y.pg=e.c.pg):DyP l e ch (i+1) true (out++[y]++[z]):=by
 rw[JE]
 exact h.ap hi true ([y]++[z]) (fun w hw=>by
  rcases Ji.1 hw with hw | hw<;>rw[Jf.1 hw]<;>assumption) (fun q=>by rw[hx q]; simp) fun _ _=>.inr ⟨y,by simp,hy⟩
def QGd(l:List Dt)(e:E)(m:List Dt):Prop:=(¬ (e.kind=1\/e.kind=2)->e.kind≠7->m=l)/\((e.kind=1\/e.kind=2)\/e.kind=7->DyP l e (e.kind==1||e.kind==2) l.length true m)
structure DyS(l:List Dt)(e:E)(ch:Bool) where
 i:Nat
 d:Bool
 out:List Dt
 hi:i<=l.length
 ho:out.length<=i+d.toNat
 hP:DyP l e ch i d out
@[go_sem] def dtL(l:List Dt):DV:=.pv (.sl (fz Qc6 l))
def Qya (l:List Dt) (hl:l.length<=1000000) (e:E):VCalls prog 228 [.pv (.sl (fz Qc6 l)),.agg e.d] [] (QL dtL fun m=>m.length<=l.length + 1/\QGd l e m):=by
 refine dk Tryz.func228 ?_
 have c1:=Qcx e
 have hch:(e.kind==1||e.kind==2)=true ↔ e.kind=1\/e.kind=2:=by simp
 unfold QGd
 generalize (e.kind==1||e.kind==2)=ch at *
 cases ch
 ·have hnc:¬ (e.kind = 1\/e.kind = 2):=fun h=>by have:=hch.2 h; cases this
  (unfold Tryz.f228; refine rn trivial ?_)
  refine rn F ?_
  repeat' (first
   | with_reducible exact⟨⟩
   | (refine sB F ?_ ?_<;>intro hZ)
   | refine vp F (c1) ?_)
  all_goals first
   | (refine ⟨rfl,rfl,l,rfl,Kd _,fun _ _=>rfl,fun h=>?_⟩
      rcases h with h | h
      ·exact absurd h hnc
      ·exact absurd h (by assumption))
   | skip
  have h7:e.kind=7:=by assumption
  refine VLoop.nilOwn 5 167 3 rfl ?_
  refine Qj (fun s:DyS l e false=>⟨100,0,[(7,.int .i64 s.i),(6,.bool s.d),(5,.own 1 3 0 s.out.length),(3,.ptr 0 0),(0,.pv (.sl (fz Qc6 l)))],[⟨52,true,e.d⟩,⟨167,true,cells Qc6 s.out⟩]⟩) (fun s=>l.length-s.i) ⟨0,false,[],Jc _,Jc _,⟨fun y h=>by simp at h,fun y h=>by simp at h,fun h=>by cases h⟩⟩ (gc [0,1]) ?_
  rintro⟨i,d,out,hi,ho,hP⟩
  dsimp only
  have ho3:out.length<=i+1:=Jk ho (Nat.add_le_add_left (J3 d) i)
  by_cases hil:i<l.length
  rotate_left
  ·have hPl:i = l.length:=by omega
   subst hPl
   have hfin:DyP l e false l.length true out:=⟨hP.ha,hP.hb,fun _ h=>by cases h⟩
   have F:=@hil
   refine rn F ?_
   repeat' (first
    | with_reducible exact⟨⟩
    | (refine sG F ?_ ?_<;>intro hZ)
    | refine vp F (c1) ?_)
   all_goals first
    | exact⟨rfl,rfl,out,rfl,by omega,fun _ h=>absurd h7 h,fun _=>hfin⟩
    | skip
  have hg:=Qe5 l i hil
  have hxl:l.getD i Dt0∈l:=by rw[Qf _ _ hil]; exact Jh hil
  have hp0:=fun d' hx=>hP.p0 hil d' hx rfl
  have hp1:=fun d' y hA hx=>hP.p1 hil d' y hA hx fun _ h=>by cases h
  unfold DyA at hp1
  generalize l.getD i Dt0=x at *
  have hb1:(out.length+1)*24<=140737488355328:=Jk (JA 24 (show out.length+1<=1000002 by omega)) (by decide)
  have hb2:(out.length+1+1)*24<=140737488355328:=Jk (JA 24 (show out.length+1+1<=1000003 by omega)) (by decide)
  have ho4:∀ d':Bool,d.toNat<=d'.toNat->out.length<=i+1+d'.toNat:=fun d' h=>by omega
  have ho5:∀ d':Bool,d.toNat<=d'.toNat->∀ y:Dt,(out++[y]).length<=i+1+d'.toNat:=fun d' h y=>by rw[Ja,Jy]; omega
  have hdt:d.toNat<=1:=J3 d
  by_cases hs:x.pg=e.c.pg
  ·by_cases hr:e.ref >= x.last
   ·skip
    have F:=(Jb @hil (Jb @hg (Jb @hb1 (Jb @hb2 (Jb @hs @hr)))))
    refine rn F ?_
    repeat' (first
     | with_reducible exact⟨⟩
     | refine vp F (c1) ?_)
    all_goals exact⟨⟨i+1,true,out,by omega,ho4 true hdt,hp0 true hs⟩,by dsimp only; omega,(gc [0,1])⟩
   ·have hlt:e.ref < x.last:=by omega
    have F:=(Jb @hil (Jb @hg (Jb @hb1 (Jb @hb2 (Jb @hs @hr)))))
    refine rn F ?_
    repeat' (first
     | with_reducible exact⟨⟩
     | (refine sB F ?_ ?_<;>intro hZ)
     | refine vp F (c1) ?_)
    all_goals first
     | (refine⟨⟨i+1,true,out++[⟨e.c.pg,IntKind.i64.wrap (e.ref+1),x.last⟩],by omega,ho5 true hdt _,hp1 true _ (.inr (.inr ⟨rfl,rfl,x,hxl,hs,rfl,hlt⟩)) (fun h=>absurd hs h)⟩,by dsimp only; omega,?_⟩; dsimp only; rw[Ja]; exact(gc [0,4]))
     | (refine⟨⟨i+1,true,out++[⟨x.pg,IntKind.i64.wrap (e.ref+1),x.last⟩],by omega,ho5 true hdt _,hp1 true _ (.inr (.inr ⟨hs,rfl,x,hxl,hs,rfl,hlt⟩)) (fun h=>absurd hs h)⟩,by dsimp only; omega,?_⟩; dsimp only; rw[Ja]; exact(gc [0,4]))
     | (refine⟨⟨i+1,true,out++[⟨e.c.pg,x.rc,x.last⟩],by omega,ho5 true hdt _,hp1 true _ (.inr (.inr ⟨rfl,rfl,x,hxl,hs,rfl,hlt⟩)) (fun h=>absurd hs h)⟩,by dsimp only; omega,?_⟩; dsimp only; rw[Ja]; exact(gc [0,4]))
     | (refine⟨⟨i+1,true,out++[⟨x.pg,x.rc,x.last⟩],by omega,ho5 true hdt _,hp1 true _ (.inr (.inr ⟨hs,rfl,x,hxl,hs,rfl,hlt⟩)) (fun h=>absurd hs h)⟩,by dsimp only; omega,?_⟩; dsimp only; rw[Ja]; exact(gc [0,4]))
     | skip
  ·cases d
   ·skip
    have F:=(Jb @hil (Jb @hg (Jb @hb1 (Jb @hb2 @hs))))
    refine rn F ?_
    repeat' (first
     | with_reducible exact⟨⟩
     | (refine sG F ?_ ?_<;>intro hZ)
     | refine vp F (c1) ?_)
    all_goals
     refine⟨⟨i+1,false,out++[⟨x.pg,x.rc,x.last⟩],by omega,ho5 false (JB _) _,hp1 false _ (.inl ⟨hxl,hs⟩) (fun _=>rfl)⟩,by dsimp only; omega,?_⟩
     dsimp only
     rw[Ja]
     exact(gc [0,4])
   ·skip
    have F:=(Jb @hil (Jb @hg (Jb @hb1 (Jb @hb2 @hs))))
    refine rn F ?_
    repeat' (first
     | with_reducible exact⟨⟩
     | (refine sG F ?_ ?_<;>intro hZ))
    all_goals
     refine⟨⟨i+1,true,out++[⟨x.pg,x.rc,x.last⟩],by omega,ho5 true (JB _) _,hp1 true _ (.inl ⟨hxl,hs⟩) (fun _=>rfl)⟩,by dsimp only; omega,?_⟩
     dsimp only
     rw[Ja]
     exact(gc [0,4])
 have hc:e.kind=1\/e.kind=2:=hch.1 rfl
 (unfold Tryz.f228; refine rn trivial ?_)
 have F:=trivial
 refine rn F ?_
 repeat' (first
  | with_reducible exact⟨⟩
  | refine vp F (c1) ?_)
 refine VLoop.nilOwn 5 167 3 rfl ?_
 refine Qj (fun s:DyS l e true=>⟨100,0,[(7,.int .i64 s.i),(6,.bool s.d),(5,.own 1 3 0 s.out.length),(3,.ptr 0 0),(0,.pv (.sl (fz Qc6 l)))],[⟨52,true,e.d⟩,⟨167,true,cells Qc6 s.out⟩]⟩) (fun s=>l.length-s.i) ⟨0,false,[],Jc _,Jc _,⟨fun y h=>by simp at h,fun y h=>by simp at h,fun h=>by cases h⟩⟩ (gc [0,1]) ?_
 rintro⟨i,d,out,hi,ho,hP⟩
 dsimp only
 have hdt:d.toNat<=1:=J3 d
 have ho3:out.length<=i+1:=by omega
 have hb1:(out.length+1)*24<=140737488355328:=Jk (JA 24 (show out.length+1<=1000002 by omega)) (by decide)
 have hb2:(out.length+1+1)*24<=140737488355328:=Jk (JA 24 (show out.length+1+1<=1000003 by omega)) (by decide)
 by_cases hil:i<l.length
 rotate_left
 ·have hPl:i = l.length:=by omega
  subst hPl
  cases d
  ·have hfin:DyP l e true l.length true (out ++ [⟨e.c.pg,e.lsn,e.lsn⟩]):=⟨fun y hy=>by
    rcases Ji.1 hy with hy | hy
    ·exact hP.ha y hy
    ·rw[Jf.1 hy]; exact .inr (.inl ⟨rfl,rfl,rfl⟩),fun y hy hn=>Jl _ (hP.hb y hy hn),fun _ _=>⟨⟨e.c.pg,e.lsn,e.lsn⟩,by simp,rfl⟩⟩
   rw[J5] at ho
   have F:=(Jb @hil @hb1)
   refine rn F ?_
   repeat' (first
    | with_reducible exact⟨⟩
    | refine vp F (c1) ?_)
   exact⟨rfl,rfl,_,rfl,by rw[Ja,Jy]; omega,fun h=>absurd hc h,fun _=>hfin⟩
  ·skip
   have F:=(Jb @hil @hb1)
   refine rn F ?_
   exact⟨rfl,rfl,out,rfl,by omega,fun h=>absurd hc h,fun _=>hP⟩
 have hg:=Qe5 l i hil
 have hxl:l.getD i Dt0∈l:=by rw[Qf _ _ hil]; exact Jh hil
 have hp1:=fun d' y hA hx hd=>hP.p1 hil d' y hA hx hd
 have hp2:=fun y z hA hB hx hy=>hP.p2 hil y z hA hB hx hy
 unfold DyA at hp1 hp2
 generalize l.getD i Dt0=x at *
 by_cases hs:x.pg=e.c.pg
 ·have hng:¬ x.pg > e.c.pg:=by omega
  have F:=(Jb @hil (Jb @hg (Jb @hb1 (Jb @hb2 (Jb @hs @hng)))))
  refine rn F ?_
  repeat' (first
   | with_reducible exact⟨⟩
   | refine vp F (c1) ?_)
  all_goals first
   | (refine⟨⟨i+1,true,out++[⟨e.c.pg,x.rc,e.lsn⟩],by omega,by simp; omega,hp1 true _ (.inr (.inl ⟨rfl,rfl,rfl⟩)) (fun h=>absurd hs h) (fun _ _=>.inr rfl)⟩,by dsimp only; omega,?_⟩; dsimp only; rw[Ja]; exact(gc [0,4]))
   | (refine⟨⟨i+1,true,out++[⟨x.pg,x.rc,e.lsn⟩],by omega,by simp; omega,hp1 true _ (.inr (.inl ⟨hs,rfl,rfl⟩)) (fun h=>absurd hs h) (fun _ _=>.inr hs)⟩,by dsimp only; omega,?_⟩; dsimp only; rw[Ja]; exact(gc [0,4]))
   | (exfalso; omega)
   | skip
 ·cases d
  ·by_cases hgt:x.pg > e.c.pg
   ·rw [J5] at ho
    have F:=(Jb @hil (Jb @hg (Jb @hb1 (Jb @hb2 (Jb @hs @hgt)))))
    refine rn F ?_
    repeat' (first
     | with_reducible exact⟨⟩
     | refine vp F (c1) ?_)
    refine⟨⟨i+1,true,out++[⟨e.c.pg,e.lsn,e.lsn⟩]++[⟨x.pg,x.rc,x.last⟩],by omega,by simp; omega,hp2 _ _ (.inr (.inl ⟨rfl,rfl,rfl⟩)) (.inl ⟨hxl,hs⟩) (fun _=>rfl) rfl⟩,by dsimp only; omega,?_⟩
    dsimp only; rw[Ja,Ja]; exact(gc [0,6])
   ·skip
    have F:=(Jb @hil (Jb @hg (Jb @hb1 (Jb @hb2 (Jb @hs @hgt)))))
    refine rn F ?_
    refine⟨⟨i+1,false,out++[⟨x.pg,x.rc,x.last⟩],by omega,by rw[Ja,Jy]; omega,hp1 false _ (.inl ⟨hxl,hs⟩) (fun _=>rfl) (fun h=>by cases h)⟩,by dsimp only; omega,?_⟩
    dsimp only; rw[Ja]; exact(gc [0,4])
  ·skip
   have F:=(Jb @hil (Jb @hg (Jb @hb1 (Jb @hb2 @hs))))
   refine rn F ?_
   repeat' (first
    | with_reducible exact⟨⟩
    | (refine sG F ?_ ?_<;>intro hZ))
   all_goals
    refine⟨⟨i+1,true,out++[⟨x.pg,x.rc,x.last⟩],by omega,by rw[Ja,Jy]; omega,hp1 true _ (.inl ⟨hxl,hs⟩) (fun _=>rfl) (fun _ _=>.inl rfl)⟩,by dsimp only; omega,?_⟩
    dsimp only
    rw[Ja]
    exact(gc [0,4])
def QtH(a b:Gr):VCalls prog 233 [.agg a.d,.agg b.d] [] (QL boD fun _=>True):=by
 refine dd Tryz.func233 ?_
 (unfold Tryz.f233; refine rn trivial ?_)
 refine rn F ?_
 repeat' (first
  | with_reducible exact⟨⟩
  | (refine sB F ?_ ?_<;>intro hZ))
 all_goals exact⟨rfl,rfl,_,rfl,trivial⟩
@[go_sem] def grL(l:List Gr):DV:=.pv (.sl (fz Qau l))
def Qtg(l:List Gr)(hl:l.length<=10000000)(g:Gr):VCalls prog 229 [.pv (.sl (fz Qau l)),.agg g.d] [] (QL grL fun m=>m.length<=l.length+1):=by
 refine dk Tryz.func229 ?_
 have c1:=fun a=>QtH a g
 (unfold Tryz.f229; refine rn trivial ?_)
 refine Qj (fun s:To l.length=>⟨44,0,[(5,.int .i64 s.i),(3,.ptr 0 0),(0,.pv (.sl (fz Qau l)))],[⟨201,true,g.d⟩]⟩) (fun s=>l.length-s.i) ⟨0,Jc _⟩ (gc [0]) ?_
 rintro⟨i,hi⟩
 dsimp only
 have hg:=fun h:i<l.length=>QaI l i h
 by_cases hil:i<l.length
 ·have hg:=QaI l i hil
  have c2:=QtH (l.getD i Gr0) g
  generalize l.getD i Gr0=x at *
  have he:=Qwt x.tx x.pg x.sl x.md g.tx g.pg g.sl g.md
  have hb:(i+1+(l.length-i))*32<=140737488355328:=by omega
  have F:=(Jb @hg (Jb @he @hb))
  refine rn F ?_
  repeat' (first
   | with_reducible exact⟨⟩
   | (refine sB F ?_ ?_<;>intro hZ)
   | (refine Qp (c2) rfl ?_; rintro b -; refine rn F ?_)
   | (refine Qd (id:=2) [0,1,2,3,4,5,6,7,8,9] [⟨[],[],10,[0,1,2,3,5,6,7],[11]⟩] (by kernel_rfl) (by kernel_rfl) ?_; refine rn F ?_)
   | (refine Qd (id:=4) [0,1,2,3,4,5,6,7,8,9,10,11] [] (by kernel_rfl) (by kernel_rfl) ?_; refine rn F ?_)
   | (refine Qd (id:=6) [0,1,2,4,7,8,9] [⟨[5],[],3,[0,1,4,7,8,9],[]⟩,⟨[5],[5],6,[0,1,2,4,7,8,9],[]⟩,⟨[],[],10,[0,1,2,4,7,8],[]⟩,⟨[],[],11,[],[]⟩] (by kernel_rfl) (by kernel_rfl) ?_; refine rn F ?_))
  all_goals first
   | exact⟨⟨i+1,by omega⟩,by dsimp only; omega,(gc [0])⟩
   | exact⟨rfl,rfl,l,rfl,Kd _⟩
   | exact⟨rfl,rfl,_,rfl,by simp; omega⟩
   | skip
 ·skip
  have F:=trivial
  refine rn F ?_
  repeat' (first
   | with_reducible exact⟨⟩
   | (refine Qd (id:=2) [0,1,2,3,4,5,6,7,8,9] [⟨[],[],10,[0,1,2,3,5,6,7],[11]⟩] (by kernel_rfl) (by kernel_rfl) ?_; refine rn F ?_)
   | (refine Qd (id:=4) [0,1,2,3,4,5,6,7,8,9,10,11] [] (by kernel_rfl) (by kernel_rfl) ?_; refine rn F ?_)
   | (refine Qd (id:=6) [0,1,2,4,7,8,9] [⟨[5],[],3,[0,1,4,7,8,9],[]⟩,⟨[5],[5],6,[0,1,2,4,7,8,9],[]⟩,⟨[],[],10,[0,1,2,4,7,8],[]⟩,⟨[],[],11,[],[]⟩] (by kernel_rfl) (by kernel_rfl) ?_; refine rn F ?_))
  exact⟨rfl,rfl,_,rfl,by simp; omega⟩
@[go_sem] def lkR(a:List Gr×Int):DV:=.tup [.pv (.sl (fz Qau a.1)),.int .i64 a.2]
structure LkO(n:Nat) where
 i:Nat
 out:List Gr
 hi:i<=n
 ho:out.length<=100000*i
structure LkI(n i:Nat) where
 k:Nat
 out:List Gr
 hk:k<=n
 ho:out.length<=100000*i+k
def QxV(x:Lg)(hx:x.es.length<=1000000)(l:List Tx)(hl:smN 65 l):VCalls prog 197 [.agg x.c,.pv (.sl (fz Qap l))] [] (QL lkR fun a=>a.1.length<=6500000):=by
 refine dk Tryz.func197 ?_
 have h65:=hl.1
 (unfold Tryz.f197; refine rn trivial ?_)
 refine VLoop.wkS ?_
 refine rn trivial ?_
 refine Qj (fun s:LkO l.length=>⟨68,0,[(7,.int .i64 s.i),(6,.pv (.sl (fz Qau s.out))),(2,.ptr 0 0),(1,.pv (.sl (fz Qap l)))],[⟨26,true,x.c⟩]⟩) (fun s=>l.length-s.i) ⟨0,[],Jc _,Jc _⟩ (gc [0]) ?_
 rintro⟨i,out,hi,ho⟩
 dsimp only
 by_cases hil:i<l.length
 rotate_left
 ·skip
  refine rn F ?_
  exact⟨rfl,rfl,(out,0),rfl,by dsimp only; omega⟩
 have hg:=Qeq l i hil
 have hss:(l.getD i Tx0).l.length<=100000:=by rw[Qf _ _ hil]; exact(hl.2 _ (Jh hil)).1
 generalize l.getD i Tx0=t at *
 refine rn F ?_
 refine Qj (fun s:LkI t.l.length i=>⟨68,0,[(8,.int .i64 s.k),(7,.int .i64 i),(6,.pv (.sl (fz Qau s.out))),(2,.ptr 0 0),(1,.pv (.sl (fz Qap l)))],[⟨26,true,x.c⟩]⟩) (fun s=>t.l.length-s.k) ⟨0,out,Jc _,ho⟩ (gc [0]) ?_
 rintro⟨k,out2,hk,ho2⟩
 dsimp only
 by_cases hkl:k<t.l.length
 rotate_left
 ·skip
  have F:=@hg
  refine rn F ?_
  exact⟨⟨i+1,out2,hil,by rw[Nat.mul_succ]; omega⟩,by dsimp only; omega,(gc [0])⟩
 have hg2:=Qac t.l k hkl
 have c1:=QiL x (by omega) (t.l.getD k 0)
 generalize QbA x (t.l.getD k 0)=r at *
 obtain⟨e,f⟩:=r
 dsimp only at c1
 have c2:=Qtg out2 (by omega) ⟨e.tx,e.c.pg,e.c.sl,2⟩
 have F:=(Jb @hg @hg2)
 refine rn F ?_
 repeat' (first
  | with_reducible exact⟨⟩
  | (refine sG F ?_ ?_<;>intro hZ)
  | (refine sB F ?_ ?_<;>intro hZ)
  | refine vp F (c1) ?_
  | (refine Qp (c2) rfl ?_; rintro m hm; refine rn F ?_)
  | (refine Qd (id:=8) [0,1,2,3,4,5,6,7,8] [⟨[13],[],9,[1,2,3,4,5,6,7],[10,11,12]⟩,⟨[13],[13],14,[12],[]⟩,⟨[],[],15,[],[]⟩] (by kernel_rfl) (by kernel_rfl) ?_; refine rn F ?_)
  | (refine Qd (id:=11) [0,1,2,3,4,5,6,7,8,9,10,11,12] [] (by kernel_rfl) (by kernel_rfl) ?_; refine rn F ?_))
 all_goals first
  | exact⟨rfl,rfl,([],_),rfl,Jc _⟩
  | exact⟨⟨k+1,m,hkl,by omega⟩,by dsimp only; omega,(gc [0])⟩
  | skip
structure An where
 pg:Int
 nx:Int
 cp:Int
 lo:List Tx
 lk:List Gr
 la:List Dt
 ix:List Rw
@[go_sem] def An.d(a:An):List DV:=[.int .i64 a.pg,.int .i64 a.nx,.int .i64 a.cp,.pv (.sl (fz Qap a.lo)),.pv (.sl (fz Qau a.lk)),.pv (.sl (fz Qc6 a.la)),.pv (.sl (fz Qcr a.ix))]
def An0:An:=⟨0,0,0,[],[],[],[]⟩
def An.sm(a:An)(n:Nat):Prop:=smN 65 a.lo/\a.lk.length<=6500000/\a.la.length<=n/\a.ix.length<=64
def QwC(n:Nat):An0.sm n:=⟨Q3 _,Jc _,Jc _,Jc _⟩
@[go_sem] def anD(a:An×Int):DV:=.tup [.agg a.1.d,.int .i64 a.2]
def Qdj(h:(QZ l e).2=0):QbD l=true/\e.okB=true:=by
 unfold QZ at h
 split at h
 ·simp at h
 rename_i q1
 split at h
 ·simp at h
 rename_i q2
 exact⟨by simpa using q1,by simpa using q2⟩
def QuA{e:E}(h:e.okB=true):0<=e.tx/\e.tx<=1073741824:=by
 unfold E.okB at h
 rw[Je] at h
 have h2:=h.2
 unfold E.kindB txB at h2
 split at h2
 ·simp only[Je,decide_eq_true_eq] at h2; omega
 split at h2
 ·simp only[Je,decide_eq_true_eq] at h2; omega
 split at h2
 ·simp only[Je,decide_eq_true_eq] at h2; omega
 split at h2
 ·simp only[Je,beq_iff_eq] at h2; omega
 split at h2
 ·simp only[Je,beq_iff_eq] at h2; omega
 ·cases h2
def QAh(h:(QZ l e).2=0)(n:Int):(if IntKind.i64.wrap (e.tx+1) > n then IntKind.i64.wrap (e.tx+1) else n)=max n (e.tx+1):=by
 have:=QuA (Qdj h).2
 have hw:IntKind.i64.wrap (e.tx+1)=e.tx+1:=by rw[IntKind.wrap_i64]; omega
 rw[hw]
 split<;>omega
def NoteR(a:An)(e:E)(b:An):Prop:=b.pg=a.pg/\b.cp=a.cp/\b.nx=max a.nx (e.tx+1) /\
 ((¬ (0<e.tx/\idT a.lo e.tx<0)/\(QZ a.lo e).2=0/\b.lo=(QZ a.lo e).1)\/((0<e.tx/\idT a.lo e.tx<0)/\(Qaj a.lo e.tx).2=0/\(QZ (Qaj a.lo e.tx).1 e).2=0/\b.lo=(QZ (Qaj a.lo e.tx).1 e).1)) /\
 (Qb2 a.ix e).2=0/\b.ix=(Qb2 a.ix e).1/\((e.kind=1\/e.kind=2)->e.c.pg<a.pg)/\QGd a.la e b.la
def QE9{a:An}{e:E}(q1:¬ (0<e.tx/\idT a.lo e.tx<0))(q2:(QZ a.lo e).2=0)(q3:(Qb2 a.ix e).2=0)(q4:(e.kind=1\/e.kind=2)->e.c.pg<a.pg)(la:List Dt)(q5:QGd a.la e la)(x:Int)(q6:x=if IntKind.i64.wrap (e.tx+1) > a.nx then IntKind.i64.wrap (e.tx+1) else a.nx):NoteR a e ⟨a.pg,x,a.cp,(QZ a.lo e).1,a.lk,la,(Qb2 a.ix e).1⟩:=
 ⟨rfl,rfl,q6.trans (QAh q2 _),.inl ⟨q1,q2,rfl⟩,q3,rfl,q4,q5⟩
def QE8{a:An}{e:E}(q1:0<e.tx/\idT a.lo e.tx<0)(q0:(Qaj a.lo e.tx).2=0)(q2:(QZ (Qaj a.lo e.tx).1 e).2=0)(q3:(Qb2 a.ix e).2=0)(q4:(e.kind=1\/e.kind=2)->e.c.pg<a.pg)(la:List Dt)(q5:QGd a.la e la)(x:Int)(q6:x=if IntKind.i64.wrap (e.tx+1) > a.nx then IntKind.i64.wrap (e.tx+1) else a.nx):NoteR a e ⟨a.pg,x,a.cp,(QZ (Qaj a.lo e.tx).1 e).1,a.lk,la,(Qb2 a.ix e).1⟩:=
 ⟨rfl,rfl,q6.trans (QAh q2 _),.inr ⟨q1,q0,q2,rfl⟩,q3,rfl,q4,q5⟩
def QFa(a:An)(n:Nat)(e:E)(r:An×Int):Prop:=r.1.sm (n+1)/\(r.2=0->NoteR a e r.1)
def QtD(a:An)(n:Nat)(hn:n<=100000)(ha:a.sm n)(e:E):VCalls prog 196 [.agg a.d,.agg e.d] [] (QL anD (QFa a n e)):=by
 refine dk Tryz.func196 ?_
 obtain⟨h1,h2,h3,h4⟩:=ha
 have hl:=h1.1
 have c1:=Qcj a.lo (by omega) e.tx
 have c2:=QoT a.lo (h1.smL (by omega)) e.tx
 have c3:=Qnz a.lo (h1.smL (by omega)) e
 have hs2:=QmI (l:=a.lo) e.tx
 have hs3:=QjY (l:=a.lo) e
 have c4:=Qnz (Qaj a.lo e.tx).1 (hs2.smL (by omega)) e
 have hs4:=QjY (l:=(Qaj a.lo e.tx).1) e
 have c5:=Qls a.ix (by omega) e
 have h5:=QlU a.ix e h4
 have c6:=Qcx e
 have c7:=Qya a.la (by omega) e
 have k1:=@QE9 a e
 have k2:=@QE8 a e
 have hch:(e.kind==1||e.kind==2)=true ↔ e.kind=1\/e.kind=2:=by simp
 generalize QZ (Qaj a.lo e.tx).1 e=N2 at *
 generalize Qaj a.lo e.tx=B at *
 generalize QZ a.lo e=N1 at *
 generalize Qb2 a.ix e=R at *
 generalize (e.kind==1||e.kind==2)=ch at *
 generalize idT a.lo e.tx=f at *
 obtain⟨b,eb⟩:=B
 obtain⟨n1,e1⟩:=N1
 obtain⟨n2,e2⟩:=N2
 obtain⟨r,er⟩:=R
 dsimp only at *
 have old:∀ z,z≠0->QL anD (QFa a n e) (anD (a,z)) []:=fun z hz=>⟨rfl,rfl,(a,z),rfl,⟨h1,h2,by dsimp only; omega,h4⟩,fun h=>absurd h hz⟩
 (unfold Tryz.f196; refine rn trivial ?_)
 refine rn F ?_
 repeat' (first
  | with_reducible exact⟨⟩
  | (refine sG F ?_ ?_<;>intro hZ)
  | (refine sB F ?_ ?_<;>intro hZ)
  | refine vp F (c1) ?_
  | refine vp F (c2) ?_
  | refine vp F (c3) ?_
  | refine vp F (c4) ?_
  | refine vp F (c5) ?_
  | refine vp F (c6) ?_
  | (refine Qp (c7) rfl ?_; rintro la hla; refine rn F ?_))
 all_goals first
  | exact old _ (by first | assumption | decide)
  | exact⟨rfl,rfl,(⟨a.pg,_,a.cp,b,a.lk,a.la,a.ix⟩,_),rfl,⟨hs2,h2,by dsimp only; omega,h4⟩,fun h=>absurd h (by first | assumption | (dsimp only; assumption) | (dsimp only; decide))⟩
  | exact⟨rfl,rfl,(⟨a.pg,_,a.cp,n1,a.lk,a.la,a.ix⟩,_),rfl,⟨hs3,h2,by dsimp only; omega,h4⟩,fun h=>absurd h (by first | assumption | (dsimp only; assumption) | (dsimp only; decide))⟩
  | exact⟨rfl,rfl,(⟨a.pg,_,a.cp,n1,a.lk,a.la,r⟩,_),rfl,⟨hs3,h2,by dsimp only; omega,h5⟩,fun h=>absurd h (by first | assumption | (dsimp only; assumption) | (dsimp only; decide))⟩
  | exact⟨rfl,rfl,(⟨a.pg,_,a.cp,n2,a.lk,a.la,a.ix⟩,_),rfl,⟨hs4,h2,by dsimp only; omega,h4⟩,fun h=>absurd h (by first | assumption | (dsimp only; assumption) | (dsimp only; decide))⟩
  | exact⟨rfl,rfl,(⟨a.pg,_,a.cp,n2,a.lk,a.la,r⟩,_),rfl,⟨hs4,h2,by dsimp only; omega,h5⟩,fun h=>absurd h (by first | assumption | (dsimp only; assumption) | (dsimp only; decide))⟩
  | skip
 all_goals
  have h4c:(e.kind=1\/e.kind=2)->e.c.pg<a.pg:=fun h=>by
   have hc1:=hch.2 h
   first
    | assumption
    | (exfalso; simp_all; done)
  first
   | exact⟨rfl,rfl,(⟨a.pg,_,a.cp,n1,a.lk,la,r⟩,_),rfl,⟨hs3,h2,Jk hla.1 (J6 h3),h5⟩,fun _=>k1 (by omega) (by omega) (by omega) h4c la hla.2 _ rfl⟩
   | exact⟨rfl,rfl,(⟨a.pg,_,a.cp,n2,a.lk,la,r⟩,_),rfl,⟨hs4,h2,Jk hla.1 (J6 h3),h5⟩,fun _=>k2 (by omega) (by omega) (by omega) (by omega) h4c la hla.2 _ rfl⟩
def QH1(x:Lg)(n:Int)(a:An):Prop:=a.pg=n/\((x.f<=1/\a.nx=1/\a.cp=0/\a.lo=[]/\a.la=[]/\a.ix=Jo n.toNat Rw0) \/
 ∃ i,i<x.es.length/\(x.es.getD i E0).kind=6/\a.cp=(x.es.getD i E0).lsn/\(x.es.getD i E0).blob≠[]/\∀ c,CkV c->(x.es.getD i E0).blob=QaR c->c.pg=n/\a.nx=c.nx/\a.lo=c.tx/\a.la=c.dl/\a.ix=c.ix)
def QID(x:Lg)(n:Int)(r:An×Int):Prop:=r.1.sm 256/\(r.2=0->QH1 x n r.1)
def Qqz (x:Lg) (hx:x.es.length<=1000000) (n:Int) (hn:1<=n/\n<=64):VCalls prog 195 [.agg x.c,.int .i64 n] [] (QL anD (QID x n)):=by
 refine dk Tryz.func195 ?_
 have c1:=QtI x hx
 have c2:=QoM n
 (unfold Tryz.f195; refine rn trivial ?_)
 refine rn F ?_
 repeat' (first
  | with_reducible exact⟨⟩
  | (refine sB F ?_ ?_<;>intro hZ)
  | (refine Qp (c1) rfl ?_; rintro⟨c,at_,ok⟩ hc; refine rn F ?_)
  | (refine Qp (c2) rfl ?_; rintro⟨ix,e⟩ hi; refine rn F ?_))
 all_goals first
  | exact⟨rfl,rfl,(An0,24),rfl,QwC _,fun h=>by simp at h⟩
  | exact⟨rfl,rfl,(⟨n,1,0,[],[],[],ix⟩,0),rfl,⟨Q3 _,Jc _,Jc _,hi.1⟩,fun _=>⟨rfl,.inl ⟨by omega,rfl,rfl,rfl,rfl,hi.2.1 (hi.2.2 hn.1 hn.2)⟩⟩⟩
  | (have hl:=hc.2 (by first | assumption | (dsimp only; assumption))
     have hq:=hc.1
     dsimp only at hl hq
     obtain⟨i,l1,l2,l3,l5,l4⟩:=hl
     exact⟨rfl,rfl,(⟨n,c.nx,at_,c.tx,[],c.dl,c.ix⟩,0),rfl,⟨hq.1.mono (by decide),Jc _,hq.2.1,hq.2.2⟩,fun _=>⟨rfl,.inr ⟨i,l1,l2,l3,l5,fun c0 q1 q2=>by
      have:=l4 c0 q1 q2
      subst this
      exact⟨by first | assumption | omega,rfl,rfl,rfl,rfl⟩⟩⟩⟩)
  | skip
section
attribute [local go_sem] QCw QD8 QEx QEv Qvk Qgl Qfg Qdp QcE Qa3 QaB
inductive AnC (x:Lg) (n:Int):Nat->An->Prop
 | init {a:An}:QH1 x n a->AnC x n 0 a
 | skip {i:Nat} {a:An}:AnC x n i a->i<x.es.length->(x.es.getD i E0).lsn<=a.cp->AnC x n (i+1) a
 | note {i:Nat} {a b:An}:AnC x n i a->i<x.es.length->¬ (x.es.getD i E0).lsn<=a.cp->NoteR a (x.es.getD i E0) b->AnC x n (i+1) b
def loF(a:An)(lk:List Gr):An:=⟨a.pg,a.nx,a.cp,a.lo.filter fun t=>decide (0<t.n),lk,a.la,a.ix⟩
def QHx(x:Lg)(n:Int)(r:An×Int):Prop:=r.1.sm 10000/\(r.2=0->lgB x=true/\(1<=n/\n<=64)/\∃ a lk,AnC x n x.es.length a/\r.1=loF a lk)
structure AnS(x:Lg)(n:Int) where
 i:Nat
 a:An
 hi:i<=x.es.length
 ha:a.sm (256+i)
 hc:AnC x n i a
def flT(l:List Tx)(i:Nat):List Tx:=(l.take i).filter fun t=>decide (0<t.n)
def Qzj(l:List Tx)(i:Nat)(h:i<l.length):flT l (i+1)=if 0<(l.getD i Tx0).n then flT l i++[l.getD i Tx0] else flT l i:=by
 unfold flT
 rw[Jg h,JT,Qf l i h]
 split<;>rename_i hx<;>simp[hx]
structure LoS(l:List Tx) where
 i:Nat
 out:List Tx
 hi:i<=l.length
 ho:out.length<=i
 hs:∀ t∈out,t.ss
 he:out=flT l i
def Za:List DV:=[.int .i64 0,.int .i64 0,.int .i64 0,.pv (.slc []),.pv (.slc []),.pv (.slc []),.pv (.slc [])]
def QmO(x:Lg)(hx:x.es.length<=4096)(n:Int)(hv:lgB x=true)(hn:1<=n/\n<=64)(a:An)(ha:a.sm 10000)(hc:AnC x n x.es.length a)(out:List Tx)(ho:smN 65 out)(he:out=a.lo.filter fun t=>decide (0<t.n)):VWp prog (QfA 8 (Qfg Tryz.f149)) (QkG prog [ResultVar.cell 4 255,ResultVar.tmp 5] 0 (QL anD (QHx x n))) ⟨98,0,[(9,.pv (.sl (fz Qap out))),(6,.ptr 2 0),(4,.ptr 1 0),(2,.ptr 0 0)],[⟨26,true,x.c⟩,⟨255,true,Za⟩,⟨255,true,a.d⟩]⟩:=by
 refine Qx _ _ _ ?_
 have c4:=QxV x (by omega) out ho
 unfold Za
 (unfold Tryz.f149; refine rn trivial ?_)
 refine rn F ?_
 repeat' (first
  | with_reducible exact⟨⟩
  | (refine sB F ?_ ?_<;>intro hZ)
  | (refine Qp (c4) rfl ?_; rintro⟨lk,e⟩ hlk; refine rn F ?_))
 ·exact⟨rfl,rfl,(An0,_),rfl,QwC _,fun h=>absurd h (by first | assumption | (dsimp only; assumption))⟩
 ·exact⟨rfl,rfl,(⟨a.pg,a.nx,a.cp,out,lk,a.la,a.ix⟩,0),rfl,⟨ho,hlk,ha.2.2.1,ha.2.2.2⟩,fun _=>⟨hv,hn,a,lk,hc,by unfold loF; rw[he]⟩⟩
def QqA(x:Lg)(hx:x.es.length<=4096)(n:Int):VCalls prog 149 [.agg x.c,.int .i64 n] [] (QL anD (QHx x n)):=by
 refine Qde (fn:=Tryz.f149) (c:=Qfg Tryz.f149) Tryz.func149 rfl (by kernel_rfl) (by simp[Tryz.f149]) (VWp.postK ?_)
 refine QGL 8 ?_
 have tail:=fun hv hn a ha hc out ho he=>QmO x hx n hv hn a ha hc out ho he
 generalize QfA 8 (Qfg Tryz.f149)=rest at *
 have c1:=Qax x (by omega)
 have c2:=fun hn=>Qqz x (by omega) n hn
 have err:∀ z,z≠0->QL anD (QHx x n) (anD (An0,z)) []:=fun z hz=>⟨rfl,rfl,(An0,z),rfl,QwC _,fun h=>absurd h hz⟩
 (unfold Tryz.f149; refine rn trivial ?_)
 cases hv:lgB x
 ·rw [hv] at c1
  refine rn F ?_
  repeat' (first
   | with_reducible exact⟨⟩
   | refine vp F (c1) ?_)
  exact err _ (by decide)
 rw[hv] at c1
 by_cases hn:1<=n/\n<=64
 rotate_left
 ·skip
  refine rn F ?_
  repeat' (first
   | with_reducible exact⟨⟩
   | (refine sG F ?_ ?_<;>intro hZ)
   | refine vp F (c1) ?_)
  all_goals first | exact err _ (by decide) | (exfalso; omega)
 refine rn F ?_
 repeat' (first
  | with_reducible exact⟨⟩
  | (refine sB F ?_ ?_<;>intro hZ)
  | refine vp F (c1) ?_
  | (refine Qp (c2 hn) rfl ?_; rintro⟨a0,e0⟩ h0; refine rn F ?_))
 all_goals first | exact err _ (by first | assumption | decide) | (exfalso; omega) | skip
 have h0b:=h0.2 (by first | assumption | (dsimp only; omega))
 replace h0:=h0.1
 dsimp only at h0 h0b
 refine Qj (fun s:AnS x n=>⟨98,0,[(8,.int .i64 s.i),(6,.ptr 2 0),(4,.ptr 1 0),(2,.ptr 0 0)],[⟨26,true,x.c⟩,⟨255,true,Za⟩,⟨255,true,s.a.d⟩]⟩) (fun s=>x.es.length-s.i) ⟨0,a0,Jc _,h0,.init h0b⟩ (gc [0,1,2]) ?_
 rintro⟨i,a,hi,ha,hc⟩
 dsimp only
 unfold Za
 by_cases hil:i<x.es.length
 ·have hg:=Qmm x.es i hil
  have c3:=QtD a (256+i) (by omega) ha (x.es.getD i E0)
  have hk1:=fun h=>AnC.skip hc hil h
  have hk2:=fun h b hb=>AnC.note (b:=b) hc hil h hb
  generalize x.es.getD i E0=e at *
  have F:=@hg
  refine rn F ?_
  repeat' (first
   | with_reducible exact⟨⟩
   | (refine sB F ?_ ?_<;>intro hZ)
   | (refine Qp (c3) rfl ?_; rintro⟨a1,e1⟩ h1; refine rn F ?_)
   | (refine Qd (id:=11) [0,1,2,3,4,5,6,7,8] [] (by kernel_rfl) (by kernel_rfl) ?_; refine rn F ?_)
   | (refine Qd (id:=12) [0,1,2,3,4,5] [⟨[],[],6,[1,2,3,4],[7,8,9]⟩,⟨[],[],10,[9],[]⟩,⟨[],[],11,[],[]⟩] (by kernel_rfl) (by kernel_rfl) ?_; refine rn F ?_))
  all_goals first
   | exact err _ (by first | assumption | decide)
   | exact⟨⟨i+1,a,hil,⟨ha.1,ha.2.1,JW ha.2.2.1,ha.2.2.2⟩,hk1 (by omega)⟩,by dsimp only; omega,(gc [0,1,2])⟩
   | exact⟨⟨i+1,a1,hil,h1.1,hk2 (by omega) a1 (h1.2 (by first | assumption | (dsimp only; omega)))⟩,by dsimp only; omega,(gc [0,1,2])⟩
   | skip
 have F:=trivial
 refine rn F ?_
 refine VLoop.nilOwn 9 197 6 rfl ?_
 have hlo:=ha.1.1
 refine Qj (fun s:LoS a.lo=>⟨98,0,[(10,.int .i64 s.i),(9,.own 3 6 0 s.out.length),(6,.ptr 2 0),(4,.ptr 1 0),(2,.ptr 0 0)],[⟨26,true,x.c⟩,⟨255,true,Za⟩,⟨255,true,a.d⟩,⟨197,true,cells Qap s.out⟩]⟩) (fun s=>a.lo.length-s.i) ⟨0,[],Jc _,Jc _,fun t h=>by simp at h,rfl⟩ (gc [0,1,2,3]) ?_
 rintro⟨k,out,hk,ho,hs,he⟩
 dsimp only
 unfold Za
 by_cases hkl:k<a.lo.length
 ·have hg:=Qeq a.lo k hkl
  have hss:(a.lo.getD k Tx0).ss:=by rw[Qf _ _ hkl]; exact ha.1.2 _ (Jh hkl)
  have hb:(out.length+1)*80<=140737488355328:=Jk (JA 80 (show out.length+1<=1000 by omega)) (by decide)
  have hsu:=Qzj a.lo k hkl
  rw[<- he] at hsu
  generalize a.lo.getD k Tx0=t at *
  have F:=(Jb @hg @hb)
  refine rn F ?_
  repeat' (first
   | with_reducible exact⟨⟩
   | (refine sB F ?_ ?_<;>intro hZ))
  ·have hl2:(out ++ [t]).length = out.length + 1:=by simp
   rw[if_pos (by omega)] at hsu
   refine⟨⟨k+1,out++[t],hkl,by rw[hl2]; omega,fun z hz=>?_,hsu.symm⟩,by dsimp only; omega,?_⟩
   ·rcases Ji.1 hz with h | h
    ·exact hs z h
    ·rw[Jf.1 h]; exact hss
   dsimp only
   rw[hl2]
   exact(gc [0,1,2,5])
  ·rw [if_neg (by omega)] at hsu
   exact⟨⟨k+1,out,hkl,by omega,hs,hsu.symm⟩,by dsimp only; omega,(gc [0,1,2,3])⟩
 have hsm:smN 65 out:=⟨by omega,hs⟩
 have F:=trivial
 refine rn F ?_
 refine⟨⟨98,0,[(9,.pv (.sl (fz Qap out))),(6,.ptr 2 0),(4,.ptr 1 0),(2,.ptr 0 0)],[⟨26,true,x.c⟩,⟨255,true,Za⟩,⟨255,true,a.d⟩]⟩,.fzN (n:=3) ⟨rfl,rfl,Jc _,by simp,?_,?_⟩,tail hv hn a (by have:=ha; exact⟨this.1,this.2.1,Jk this.2.2.1 (by omega),this.2.2.2⟩) (by rw[show x.es.length=i by omega]; exact hc) out hsm (by rw[he]; unfold flT; rw[Jn (by omega)])⟩
 ·rfl
 ·refine ⟨?_,rfl,rfl,rfl,trivial⟩
  (refine rn trivial ?_; try with_reducible exact⟨⟩)
end
section
attribute [local go_sem] Qbm
structure Rd where
 tx:Int
 pg:Int
 sl:Int
 at_:Int
 cell:Ce
def QmY:Enc Rd:=⟨6,fun r=>[.lit (.int .i64 r.tx),.lit (.int .i64 r.pg),.lit (.int .i64 r.sl),.lit (.int .i64 r.at_),.lit (.bool r.cell.set),.str r.cell.data],by decide,fun _=>rfl⟩
def QHQ(l:List Rd):(cells QmY l).length=l.length*6:=QJ QmY l
def QIK(l:List Rd)(n:Nat)(h:l.length*6<=n):(cells QmY l).take n=cells QmY l:=by rw[Jn]; rw[QHQ]; exact h
def QIw(h:l.length=len):QgF n hp 0 6 len (some (cells QmY l))=some (.sl (fz QmY l)):=QX QmY h
def QHu(l:List Rd)(a b c d:Int)(x:Bool)(s:List UInt8):cells QmY l++[.pv (.lit (.int .i64 a)),.pv (.lit (.int .i64 b)),.pv (.lit (.int .i64 c)),.pv (.lit (.int .i64 d)),.pv (.lit (.bool x)),.pv (.str s)]=cells QmY (l++[⟨a,b,c,d,⟨x,s⟩⟩]):=by rw[QA]; rfl
attribute [go_sem] QHQ QIK QIw QHu
structure Sp where
 kind:Int
 tx:Int
 pg:Int
 torn:Int
 cut:Int
 a:Ac
@[go_sem] def Sp.d(t:Sp):List DV:=[.int .i64 t.kind,.int .i64 t.tx,.int .i64 t.pg,.int .i64 t.torn,.int .i64 t.cut,.int .i64 t.a.kind,.int .i64 t.a.pg,.int .i64 t.a.sl,.pv (.str t.a.data)]
structure Sc where
 s:Sv
 tx:List Int
 rd:List Rd
 dead:Bool
def Sc.sm(c:Sc)(n:Nat):Prop:=c.s.sm/\c.tx.length<=n/\c.rd.length<=n
@[go_sem] def scB(c:Sc)(i j:Nat):Blk:=⟨105,true,c.s.d++[.own i 1 0 c.tx.length,.own j 6 0 c.rd.length,.bool c.dead]⟩
@[go_sem] def scT(l:List Int):Blk:=⟨3,true,cells Qad l⟩
@[go_sem] def scR(l:List Rd):Blk:=⟨153,true,cells QmY l⟩
@[go_sem] def QvU:Blk:=⟨3,false,[]⟩
@[go_sem] def Qq8:Blk:=⟨153,false,[]⟩
def ScEnd{α:Type}(f:α->DV)(Q:Nat->Sc->α->Prop):DV->Qb->Prop:=fun r h'=>∃ c a B,r=f a/\(f a).nums (fun _=>false)=true/\((Q 0 c a/\h'=scB c 1 2::scT c.tx::scR c.rd::[B])\/(Q 1 c a/\h'=scB c 3 2::QvU::scR c.rd::scT c.tx::[B])\/(Q 2 c a/\h'=scB c 1 3::scT c.tx::Qq8::scR c.rd::[B]))
def ScEnd.mono(h:∀ n c a,Q n c a->Q' n c a):∀ r h',ScEnd f Q r h'->ScEnd f Q' r h'
 | _,_,⟨c,a,B,e1,e2,.inl ⟨q,e⟩⟩=>⟨c,a,B,e1,e2,.inl ⟨h _ _ _ q,e⟩⟩
 | _,_,⟨c,a,B,e1,e2,.inr (.inl ⟨q,e⟩)⟩=>⟨c,a,B,e1,e2,.inr (.inl ⟨h _ _ _ q,e⟩)⟩
 | _,_,⟨c,a,B,e1,e2,.inr (.inr ⟨q,e⟩)⟩=>⟨c,a,B,e1,e2,.inr (.inr ⟨h _ _ _ q,e⟩)⟩
def QkW(k0 k1 k2:Nat)(cc:VCalls P g args0 [scB c 1 2,scT c.tx,scR c.rd] (ScEnd f Q))(hk0:hp[k0]?=some (scB c k1 k2))(hk1:hp[k1]?=some (scT c.tx))(hk2:hp[k2]?=some (scR c.rd))(n01:k0≠k1)(n02:k0≠k2)(n12:k1≠k2)(ha0:args0=args.map (DV.ren fun j=>[k0,k1,k2].idxOf j))(ha:DV.nums.go [k0,k1,k2].contains args=true)(hN:∀ c a,Q 0 c a->∀ B,K (f a) (((hp.set k0 (scB c k1 k2)).set k1 (scT c.tx)).set k2 (scR c.rd)++[B]))(hT:∀ c a,Q 1 c a->∀ B,K (f a) (((hp.set k0 (scB c hp.length k2)).set k1 QvU).set k2 (scR c.rd)++scT c.tx::[B]))(hR:∀ c a,Q 2 c a->∀ B,K (f a) (((hp.set k0 (scB c k1 hp.length)).set k1 (scT c.tx)).set k2 Qq8++scR c.rd::[B])):VCalls P g args hp K:=by
 have l0:k0<hp.length:=(Jz.1 hk0).1
 have l1:k1<hp.length:=(Jz.1 hk1).1
 have l2:k2<hp.length:=(Jz.1 hk2).1
 have q1:(k0==k1)=false:=by simp[n01]
 have q2:(k0==k2)=false:=by simp[n02]
 have q3:(k1==k2)=false:=by simp[n12]
 have rt:∀ (σ:Nat->Nat) l,Qc5 σ (scT l)=scT l:=fun σ l=>QaT (Qw _ _ _)
 have rr:∀ (σ:Nat->Nat) l,Qc5 σ (scR l)=scR l:=fun σ l=>QaT (Qw _ _ _)
 have rs:∀ (σ:Nat->Nat) (c:Sc) i j,Qc5 σ (scB c i j)=scB c (σ i) (σ j):=fun σ c i j=>rfl
 have i0:[k0,k1,k2].idxOf k0=0:=by simp
 have i1:[k0,k1,k2].idxOf k1=1:=by simp[J8,q1]
 have i2:[k0,k1,k2].idxOf k2=2:=by simp[J8,q2,q3]
 refine(VCalls.frame [k0,k1,k2] (by simp[n01,n02,n12]) ?_ ?_ cc ha0 ha).mono ?_
 ·simp only[Ql3,JD,JL,hk0,hk1,hk2,Option.map_some,Qi,rt,rr,rs,i1,i2]
 ·unfold QiR
  rw[Jp]
  intro k hk
  simp only[Kb,List.not_mem_nil,or_false] at hk
  rcases hk with rfl | rfl | rfl
  ·rw [hk0]
   simp[scB,Sv.d,DV.nums,DV.nums.go]
  ·rw [hk1]
   dsimp only
   rw[show(scT c.tx).cells=cells Qad c.tx from rfl,QW _ _ (Qw _ _ _)]; simp
  ·rw [hk2]
   dsimp only
   rw[show(scR c.rd).cells=cells QmY c.rd from rfl,QW _ _ (Qw _ _ _)]; simp
 ·rintro r h2 ⟨r0,h',⟨c1,a,B,rfl,hn,e⟩,-,rfl,rfl⟩
  rw[QeO _ _ hn]
  have b1:back [k0,k1,k2] hp.length 1=k1:=rfl
  have b2:back [k0,k1,k2] hp.length 2=k2:=rfl
  have b3:back [k0,k1,k2] hp.length 3=hp.length:=rfl
  have rI:∀ (σ:Nat->Nat),Qc5 σ QvU=QvU:=fun σ=>rfl
  have rO:∀ (σ:Nat->Nat),Qc5 σ Qq8=Qq8:=fun σ=>rfl
  rcases e with⟨q,rfl⟩ | ⟨q,rfl⟩ | ⟨q,rfl⟩<;>rw[QmH l0 l1 l2 n01 n02 n12]
  ·rw[rs,rt,rr,b1,b2]; exact hN c1 a q _
  ·rw[rs,rI,rr,b2,b3,JD,rt]; exact hT c1 a q _
  ·rw[rs,rt,rO,b1,b3,JD,rr]; exact hR c1 a q _
def Qgg(e:Int):Rs:=if e=0 then ⟨1,0,0,Ce0,0⟩ else QaF e
def QeL(e:Int):VCalls prog 47 [.int .i64 e] [] (Ret (.agg (Qgg e).d)):=by
 refine dd Tryz.func47 ?_
 have c1:=Qak e
 (unfold Tryz.f47; refine rn trivial ?_)
 unfold Qgg
 refine rn F ?_
 repeat' (first
  | with_reducible exact⟨⟩
  | (refine sB F ?_ ?_<;>intro hZ)
  | refine vp F (c1) ?_)
 all_goals first
  | (rw[if_pos (by assumption)]; first | done | rfl)
  | (rw[if_neg (by assumption)]; first | done | rfl)
@[go_sem] def rsD(r:Rs):DV:=.agg r.d
def Qhc(c:Sc)(s:Sv)(e:Int):VCalls prog 41 [.ptr 0 0,.agg s.d,.int .i64 e] [scB c 1 2,scT c.tx,scR c.rd] (ScEnd rsD fun n c' r=>n=0/\c'=⟨if e=0 then s else c.s,c.tx,c.rd,c.dead⟩/\r=Qgg e):=by
 refine QR (fn:=Tryz.f41) Tryz.func41 rfl (by kernel_rfl) (by simp[Tryz.f41]) ?_
 have c1:=QeL e
 (unfold Tryz.f41; refine rn trivial ?_)
 refine rn F ?_
 repeat' (first
  | with_reducible exact⟨⟩
  | (refine sB F ?_ ?_<;>intro hZ)
  | refine vp F (c1) ?_)
 ·exact QF ⟨15,3,[(6,.ptr 3 0)],[scB ⟨s,c.tx,c.rd,c.dead⟩ 1 2,scT c.tx,scR c.rd,⟨107,true,(Qgg e).d⟩]⟩ (gc [0,1,2,4]) ⟨⟨s,c.tx,c.rd,c.dead⟩,Qgg e,_,rfl,rfl,.inl ⟨⟨rfl,by rw[if_pos (by assumption)],rfl⟩,rfl⟩⟩
 ·exact QF ⟨15,3,[(6,.ptr 3 0)],[scB c 1 2,scT c.tx,scR c.rd,⟨107,true,(Qgg e).d⟩]⟩ (gc [0,1,2,4]) ⟨c,Qgg e,_,rfl,rfl,.inl ⟨⟨rfl,by rw[if_neg (by assumption)],rfl⟩,rfl⟩⟩
end
section
attribute [local go_sem] Qbm
def scQ(c:Sc)(n m:Nat)(c':Sc)(_:Rs):Prop:=m≠1/\c'.sm n/\c'.dead=c.dead/\Str 1 c.s.k c'.s.k
def Qxz(c:Sc)(n:Nat)(hc:c.sm n)(r:Rs):scQ c (n+1) 0 c r:=⟨by decide,⟨hc.1,JW hc.2.1,JW hc.2.2⟩,rfl,Str.refl _⟩
def QEW (c:Sc) (n:Nat) (hn:n<=2000) (hc:c.sm n) (t:Sp):VCalls prog 42 [.ptr 0 0,.agg t.d] [scB c 1 2,scT c.tx,scR c.rd] (ScEnd rsD (scQ c (n + 1))):=by
 refine QR (fn:=Tryz.f42) Tryz.func42 rfl (by kernel_rfl) (by simp[Tryz.f42]) ?_
 have c1:=Qak 16
 have hq0:=Qxz c n hc
 have h1:=hc.2.1
 have h2:=hc.2.2
 by_cases h0:∃ i:Nat,i<c.tx.length/\t.tx=i+1
 rotate_left
 ·have h3:t.tx < 1\/c.tx.length < t.tx:=by
   by_cases ha:t.tx<1
   ·exact .inl ha
   ·by_cases hb:c.tx.length < t.tx
    ·exact .inr hb
    ·exact absurd ⟨(t.tx-1).toNat,by omega,by omega⟩ h0
  (unfold Tryz.f42; refine rn trivial ?_)
  refine rn F ?_
  repeat' (first
   | with_reducible exact⟨⟩
   | (refine sG F ?_ ?_<;>intro hZ)
   | refine vp F (c1) ?_
   | (refine Qd (id:=1) [0,1,2,3,4,5,6,7,8,9,10,11,12,13,14,15,16,17,18,19,20,21,22,23,24] [] (by kernel_rfl) (by kernel_rfl) ?_; refine rn F ?_))
  all_goals first
   | (exfalso; omega)
   | exact QF ⟨95,3,[(4,.ptr 3 0)],[scB c 1 2,scT (Sc.tx c),scR (Sc.rd c),⟨107,true,Rs.d (QaF 16)⟩]⟩ (gc [0,1,2,4]) ⟨c,QaF 16,_,rfl,rfl,.inl ⟨hq0 _,rfl⟩⟩
   | skip
 obtain⟨i,hi,ht⟩:=h0
 have hg:=QfO c.tx i hi
 have d1:=QEM c.s hc.1 (c.tx.getD i 0) t.a
 have e1:(↑i+1-1:Int)=↑i:=by omega
 have hlt:(i<c.tx.length)=True:=eq_true hi
 (unfold Tryz.f42; refine rn trivial ?_)
 simp only[ht]
 have F:=(Jb @hg (Jb @e1 @hlt))
 refine rn F ?_
 repeat' (first
  | with_reducible exact⟨⟩
  | (refine sG F ?_ ?_<;>intro hZ)
  | (refine sB F ?_ ?_<;>intro hZ)
  | refine vp F (c1) ?_
  | (refine Qp (d1) rfl ?_; rintro⟨s2,r2⟩ hq; refine rn F ?_)
  | refine vp F (Qgq s2.k.lg (Jk hq.1.1.1 (by decide))) ?_
  | (refine Qd (id:=1) [0,1,2,3,4,5,6,7,8,9,10,11,12,13,14,15,16,17,18,19,20,21,22,23,24] [] (by kernel_rfl) (by kernel_rfl) ?_; refine rn F ?_)
  | (refine Qd (id:=3) [0,1,2,3,4,5,6,7,8] [⟨[],[],9,[],[]⟩] (by kernel_rfl) (by kernel_rfl) ?_; refine rn F ?_)
  | (refine Qd (id:=4) [0,1,2,3,4,5,6] [⟨[11,12],[],7,[0,1,2,5],[8,9,10]⟩,⟨[11,12],[11],13,[10],[]⟩,⟨[12],[12],14,[],[]⟩] (by kernel_rfl) (by kernel_rfl) ?_; refine rn F ?_)
  | (refine Qd (id:=9) [0,1,2,3,4,5,6,7,8,9,10,11,12,13,14,16,17] [⟨[],[],15,[0,1,2,3,4,5,6,7,8,9,10,11,12,13,16,17],[18]⟩,⟨[19],[19],20,[0,1,2,3,5,6,7,8,9,10,11,12,13,14,16,17,18],[21,22]⟩,⟨[],[],23,[21],[]⟩] (by kernel_rfl) (by kernel_rfl) ?_; refine rn F ?_))
 all_goals first
  | exact QF ⟨95,3,[(4,.ptr 3 0)],[scB c 1 2,scT (Sc.tx c),scR (Sc.rd c),⟨107,true,Rs.d (QaF 16)⟩]⟩ (gc [0,1,2,4]) ⟨c,QaF 16,_,rfl,rfl,.inl ⟨hq0 _,rfl⟩⟩
  | exact QF ⟨95,3,[(4,.ptr 3 0)],[scB c 1 2,scT (Sc.tx c),scR (Sc.rd c),⟨107,true,Rs.d (r2)⟩]⟩ (gc [0,1,2,4]) ⟨c,r2,_,rfl,rfl,.inl ⟨hq0 _,rfl⟩⟩
  | exact QF ⟨95,3,[(4,.ptr 3 0)],[scB ⟨s2,c.tx,c.rd,c.dead⟩ 1 2,scT (Sc.tx ⟨s2,c.tx,c.rd,c.dead⟩),scR (Sc.rd ⟨s2,c.tx,c.rd,c.dead⟩),⟨107,true,Rs.d (r2)⟩]⟩ (gc [0,1,2,4]) ⟨⟨s2,c.tx,c.rd,c.dead⟩,r2,_,rfl,rfl,.inl ⟨⟨by decide,⟨hq.1,by dsimp only; omega,by dsimp only; omega⟩,rfl,hq.2.2 (by dsimp only; omega)⟩,rfl⟩⟩
  | skip
 have hl:(c.rd++[(⟨c.tx.getD i 0,t.a.pg,t.a.sl,Qht s2.k.lg,r2.cell⟩:Rd)]).length=c.rd.length+1:=by simp
 generalize hr:c.rd++[(⟨c.tx.getD i 0,t.a.pg,t.a.sl,Qht s2.k.lg,r2.cell⟩:Rd)]=rd at *
 rw[<- hl]
 exact QF ⟨95,3,[(4,.ptr 4 0)],[scB ⟨s2,c.tx,rd,c.dead⟩ 1 3,scT c.tx,Qq8,scR rd,⟨107,true,r2.d⟩]⟩ (gc [0,1,2,8,4]) ⟨⟨s2,c.tx,rd,c.dead⟩,r2,_,rfl,rfl,.inr (.inr ⟨⟨by decide,⟨hq.1,by dsimp only; omega,by dsimp only; omega⟩,rfl,hq.2.2 (by dsimp only; omega)⟩,rfl⟩)⟩
end
end Go.Proofs.YtomgpphpkcoolaaGreat
