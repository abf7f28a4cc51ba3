/-
  Contracts of functions and plain laws. No condition.
-/
import Derived.Test.YtdnbdbgdfocpgaaGreatV3
set_option linter.unusedSimpArgs false
set_option linter.unusedVariables false
set_option linter.defProp false
set_option maxRecDepth 100000
set_option maxHeartbeats 8000000
set_option autoImplicit true
set_option relaxedAutoImplicit true
open Array renaming getD_eq_getD_getElem?->Ja,getElem?_eq_some_iff->Jb,getElem?_append_left->Jc,eq_empty_of_size_eq_zero->Jd,replicate->Jf
open List renaming range_eq_range'->Je,range'->Jg,getElem?_eq_some_iff->Jh,sizeOf_lt_of_mem->Ji,range_succ->Jj,mem_of_getElem?->Jl,append_assoc->Jm,length_cons->Jn,map_toArray->Jo,length->Jp,range->Jq,map_cons->Jr,map_nil->Js
open Nat renaming le_of_ble_eq_true->Jk,le_refl->Jt
namespace Go.V
open Go.RowKit (Below)
mutual
def DV.fix:DV->Bool
 | .pv p=>p.fix
 | .agg ds=>DV.fixL ds
 | _=>false
def DV.fixL:List DV->Bool
 | []=>true
 | d::r=>d.fix&&DV.fixL r
end
mutual
def DV.val:DV->Value
 | .pv p=>p.val
 | .agg ds=>.agg (DV.valL ds).toArray
 | _=>undef
def DV.valL:List DV->List Value
 | []=>[]
 | d::r=>d.val::DV.valL r
end
def DV.valL_len:∀ (ds:List DV),(DV.valL ds).length=ds.length
 | []=>rfl
 | _::r=>by rw[DV.valL,Jn,Jn,DV.valL_len r]
def DV.valL_get:∀ {ds:List DV} {i:Nat} {d:DV},ds[i]?=some d->(DV.valL ds)[i]?=some d.val
 | x::r,0,d,h=>by simp at h; subst h; simp[DV.valL]
 | x::r,i+1,d,h=>by simp at h; rw[DV.valL]; simpa using DV.valL_get h
def DV.fixL_get:∀ {ds:List DV},DV.fixL ds=true->∀ {i:Nat} {d:DV},ds[i]?=some d->d.fix=true
 | x::r,h,0,d,h'=>by simp at h'; subst h'; simp[DV.fixL] at h; exact h.1
 | x::r,h,i+1,d,h'=>by simp at h'; simp[DV.fixL] at h; exact DV.fixL_get h.2 h'
def DV.fix_rel:∀ {d:DV},d.fix = true->RelD w β hp d d.val
 | .pv p,h=>.pv _ _ (PV.fix_rel h)
 | .agg ds,h=>.agg ds _ (by simp [DV.valL_len]) fun i d hd=>by
   have h1:=DV.valL_get hd
   have e:((DV.valL ds).toArray.getD i undef)=d.val:=by simp[Ja,h1]
   rw[e]
   exact DV.fix_rel (d:=d) (DV.fixL_get h hd)
 | .ptr _ _,h=>by simp[DV.fix] at h
 | .own _ _ _ _,h=>by simp[DV.fix] at h
 | .ownc _ _ _ _ _,h=>by simp[DV.fix] at h
 | .ip _,h=>by simp[DV.fix] at h
 | .fn _ _ _,h=>by simp[DV.fix] at h
 | .tup _,h=>by simp[DV.fix] at h
 | .opt _ _,h=>by simp[DV.fix] at h
 | .any,h=>by simp[DV.fix] at h
termination_by d=>SizeOf.sizeOf d
decreasing_by
 have:=Ji (Jl hd)
 simp only[DV.agg.sizeOf_spec]
 omega
def DV.fix_eq:∀ {d:DV} {v:Value},d.fix = true->RelD w β hp d v->v = d.val
 | .pv p,v,h,hr=>by cases hr with | pv _ _ hr=>exact PV.fix_eq h hr
 | .agg ds,v,h,hr=>by
   cases hr with
   | agg _ vs hl hv =>
     rw[DV.val]
     congr 1
     apply Array.ext
     ·simp[DV.valL_len,hl]
     ·intro j h1 h2
      have hj:j<ds.length:=by simpa [DV.valL_len] using h2
      have hd:ds[j]?=some ds[j]:=List.getElem?_eq_getElem hj
      have:=DV.fix_eq (d:=ds[j]) (DV.fixL_get h hd) (hv j ds[j] hd)
      simp only[Ja,Array.getElem?_eq_getElem h1,Option.getD_some] at this
      rw[this]
      have e2:=DV.valL_get hd
      have e3:(DV.valL ds)[j]'(by rw[DV.valL_len]; exact hj)=ds[j].val:=by
       have:=Jh.1 e2
       exact this.2
      simpa using e3.symm
 | .ptr _ _,_,h,_=>by simp[DV.fix] at h
 | .own _ _ _ _,_,h,_=>by simp[DV.fix] at h
 | .ownc _ _ _ _ _,_,h,_=>by simp[DV.fix] at h
 | .ip _,_,h,_=>by simp[DV.fix] at h
 | .fn _ _ _,_,h,_=>by simp[DV.fix] at h
 | .tup _,_,h,_=>by simp[DV.fix] at h
 | .opt _ _,_,h,_=>by simp[DV.fix] at h
 | .any,_,h,_=>by simp[DV.fix] at h
termination_by d=>SizeOf.sizeOf d
decreasing_by
 have:=Ji (List.getElem_mem hj)
 simp only[DV.agg.sizeOf_spec]
 omega
structure BoxIn(W:World)(b:Nat)(cs:List PV)(v:Value):Prop where
 v:v=.pointer (some ⟨b,0,none⟩)
 lie:∃ (C:Row) (T:TypeId),W.heap[b]?=some (.cells C.v T C.m)/\cs.length<=C.v.size/\∀ (i:Nat) (p:PV),cs[i]?=some p->RelD W QdT [] (.pv p) (C.v.getD i undef)
def BoxIn.seen{b:Nat}{cs:List PV}{v:Value}(h:BoxIn W b cs v):RelD W QdT [] (.ip cs) v:=by
 obtain⟨rfl,C,T,h1,h2,h3⟩:=h
 have hlt:=(Jb.1 h1).1
 refine .ip cs ⟨b,0,none⟩ (fun j=>C.v.getD j undef) rfl (fun j d hj=>⟨hlt,QFE,?_⟩) (fun j d hj=>?_)
 ·have hj':j < cs.length:=(Jh.1 hj).1
  have:=Q6 h1 (o:=j) (by omega)
  simpa [at_] using this
 ·have:=h3 j d hj
  cases this with | pv _ _ hr=>exact hr
def BoxIn.keep{b:Nat}{cs:List PV}{v:Value}(h:BoxIn W b cs v)(hc:cs.all PV.fix=true)(hb:∀ o:Obj,W.heap[b]?=some o->Z.heap[b]?=some o):BoxIn Z b cs v:=by
 obtain⟨rfl,C,T,h1,h2,h3⟩:=h
 refine⟨rfl,C,T,hb _ h1,h2,fun i p hi=>?_⟩
 have hp:p.fix=true:=List.all_eq_true.1 hc p (Jl hi)
 have:=h3 i p hi
 cases this with | pv _ _ hr=>rw[PV.fix_eq hp hr]; exact .pv _ _ (PV.fix_rel hp)
def QA0 (ev:Evo X QdT [] W β hp) (hh:HeapRel W β hp) (hk:hp[k]? = some ⟨T,true,cs.map .pv⟩) (hv:RelD W β hp (.ptr k 0) v):∃ b,BoxIn W b cs v/\X.heap.size<=b:=by
 cases hv with
 | ptr _ _ b h1 h2 =>
   obtain⟨C,c1,c2,c3⟩:=hh.blk k _ b hk rfl h2
   refine⟨b,⟨rfl,C,T,c1,by simpa using c2,fun i p hi=>?_⟩,?_⟩
   ·have:=(c3 i (.pv p) (by simp [hi])).2
    cases this with | pv _ _ hr=>exact .pv _ _ (hr.mono (Jt _) (fun _ _ _=>rfl) (fun b _ hb=>absurd hb QFE))
   ·refine Nat.le_of_not_lt fun hlt=>?_
    obtain⟨j,B,q,_⟩:=ev.im b hlt ⟨k,_,hk,rfl,h2⟩
    simp at q
def QdA (hh:HeapRel W β hp) (hk:hp[k]? = some ⟨T,true,cs.map .pv⟩) (hv:RelD W β hp (.ptr k 0) v):RelD W QdT [] (.ip cs) v:=by
 cases hv with
 | ptr _ _ b h1 h2 =>
   obtain⟨C,c1,c2,c3⟩:=hh.blk k _ b hk rfl h2
   refine BoxIn.seen (b:=b) ⟨rfl,C,T,c1,by simpa using c2,fun i p hi=>?_⟩
   have:=(c3 i (.pv p) (by simp[hi])).2
   cases this with | pv _ _ hr=>exact .pv _ _ (hr.mono (Jt _) (fun _ _ _=>rfl) (fun b _ hb=>absurd hb QFE))
def Qg4 (hh:HeapRel W β hp) (hk:hp[k]? = some ⟨T,true,[.fn (.func ff) [] []]⟩) (hv:RelD W β hp (.ptr k 0) v):RelD W QdT [] (.ip [.lit (.func (.func ff) #[] #[])]) v:=by
 cases hv with
 | ptr _ _ b h1 h2 =>
   obtain⟨C,c1,c2,c3⟩:=hh.blk k _ b hk rfl h2
   refine BoxIn.seen (b:=b) ⟨rfl,C,T,c1,by simpa using c2,fun i p hi=>?_⟩
   rcases i with _ | i
   ·simp at hi
    subst hi
    have:=(c3 0 _ rfl).2
    generalize C.v.getD 0 undef=u at *
    cases this with
    | fn _ _ _ vs us l1 l2 _ _ =>
      rw[Jd l1.symm,Jd l2.symm]
      exact .pv _ _ (.lit _ rfl)
   ·simp at hi
def QDl(h:RelL W β hp [p1,p2,p3,p4] us)(h1:∀ v,RelD W β hp p1 v->RelD W QdT [] c1 v)(h2:∀ v,RelD W β hp p2 v->RelD W QdT [] c2 v)(h3:∀ v,RelD W β hp p3 v->RelD W QdT [] c3 v)(h4:∀ v,RelD W β hp p4 v->RelD W QdT [] c4 v):RelL W QdT [] [c1,c2,c3,c4] us:=by
 refine⟨h.1,fun i d hd=>?_⟩
 rcases i with _ | _ | _ | _ | i<;>simp at hd<;>subst hd
 ·exact h1 _ (h.2 0 _ rfl)
 ·exact h2 _ (h.2 1 _ rfl)
 ·exact h3 _ (h.2 2 _ rfl)
 ·exact h4 _ (h.2 3 _ rfl)
def Sim.quiet(hs:Sim ⟨W,QdT,[],[]⟩ β' S a W'):W.grownBy W' none:=
 ⟨hs.evo.os,hs.evo.tape,hs.evo.output,hs.evo.size,fun k hk _=>hs.evo.same k hk (by rintro⟨j,B,h,_⟩; simp at h)⟩
def bkS(c1 c2 c3 c4:List PV)(l:Nat)(n:Int):St:=⟨47,0,[(6,.int .i64 n),(4,.ip c4),(3,.ip c3),(2,.ip c2),(1,.ip c1),(0,.fn (.yield l) [] [])],[]⟩
def bkX(c1 c2 c3 c4:List PV)(l:Nat)(n:Int)(cs:List PV):St:=⟨47,0,[(7,.ip cs),(6,.int .i64 n),(4,.ip c4),(3,.ip c3),(2,.ip c2),(1,.ip c1),(0,.fn (.yield l) [] [])],[]⟩
structure BkA(l:Nat)(vs:Array Value)(a:Act):Prop where
 s:a.tmps.size=47
 y:a.tmps.getD 0 undef=.func (.yield l) #[] #[]
 c:∀ i,i<4->a.tmps.getD (i+1) undef=vs.getD i undef
def BkA.put(h:BkA l vs a)(hd:∀ t:Nat,t<5->dst≠some t)(v:Value):BkA l vs (a.put dst v):=
 ⟨by rw[QcB]; exact h.s,by rw[QdG (hd 0 (by decide))]; exact h.y,fun i hi=>by rw[QdG (hd (i+1) (by omega))]; exact h.c i hi⟩
structure BkB(l:Nat)(vs:Array Value)(v:Value)(a:Act):Prop where
 b:BkA l vs a
 x:a.tmps.getD 7 undef=v
def BkB.put(h:BkB l vs u a)(hd:∀ t:Nat,t<5->dst≠some t)(h7:dst≠some 7)(v:Value):BkB l vs u (a.put dst v):=
 ⟨h.b.put hd v,by rw[QdG h7]; exact h.x⟩
def QuY(hd:a.defers=[])(ha:BkA l vs a)(hi:a.tmps.getD 6 undef=.int .i64 n)(hc:RelL W QdT [] [.ip c1,.ip c2,.ip c3,.ip c4] vs):
 Sim ⟨W,QdT,[],[]⟩ QdT (bkS c1 c2 c3 c4 l n) a W:=by
 refine⟨hd,ha.s,fun t=>?_,QtU W,Evo.refl _ _ _,rfl⟩
 simp only[bkS,look]
 split
 ·rename_i e; subst e; rw[hi]; exact .pv _ _ (.lit _ rfl)
 split
 ·rename_i e; subst e; rw[ha.c 3 (by decide)]; exact hc.2 3 _ rfl
 split
 ·rename_i e; subst e; rw[ha.c 2 (by decide)]; exact hc.2 2 _ rfl
 split
 ·rename_i e; subst e; rw[ha.c 1 (by decide)]; exact hc.2 1 _ rfl
 split
 ·rename_i e; subst e; rw[ha.c 0 (by decide)]; exact hc.2 0 _ rfl
 split
 ·rename_i e; subst e; rw[ha.y]; exact QiJ
 ·exact .any _
def Qzb(hd:a.defers=[])(ha:BkB l vs v a)(hi:a.tmps.getD 6 undef=.int .i64 n)(hc:RelL W QdT [] [.ip c1,.ip c2,.ip c3,.ip c4] vs)(hx:RelD W QdT [] (.ip cs) v):
 Sim ⟨W,QdT,[],[]⟩ QdT (bkX c1 c2 c3 c4 l n cs) a W:=by
 refine⟨hd,ha.b.s,fun t=>?_,QtU W,Evo.refl _ _ _,rfl⟩
 have:=(QuY hd ha.b hi hc).tm t
 simp only[bkX,look]
 split
 ·rename_i e; subst e; rw[ha.x]; exact hx
 ·simpa only[bkS,look] using this
def QC1(y:Value)(hv:vs.size=4):((#[y]++vs)++Jf (47-(#[y]++vs).size) undef).size=47/\((#[y]++vs)++Jf (47-(#[y]++vs).size) undef).getD 0 undef=y/\∀ i,i<4->((#[y]++vs)++Jf (47-(#[y]++vs).size) undef).getD (i+1) undef=vs.getD i undef:=by
 have e:(#[y]++vs).size=5:=by simp[hv]
 rw[e]
 refine⟨?_,?_,fun i hi=>?_⟩
 ·rw[Array.size_append,e,Array.size_replicate]
 ·rw[Ja,Jc (by rw[e]; omega),Jc (by show 0<1; omega)]; rfl
 ·rw [Ja,Jc (by rw [e]; omega),Array.getElem?_append_right (by show 1<=i + 1; omega),Ja]
  rfl
structure BkI(l:Nat)(vs:Array Value)(pos:Nat->Int)(N:Nat)(bad:Nat->Bool)(J:Nat->World->Prop)(k:Nat)(a:Act)(W:World):Prop where
 hk:k<=N
 re:∀ j,j<k->bad j=false
 d:a.defers=[]
 it:BkA l vs a
 i:a.tmps.getD 6 undef=.int .i64 (pos k)
 j:J k W
def Qgw{rd:Option Nat}{n:Nat}{ops:Array Oper}{Q:Exit->Act->World->Prop}{K:St->Prop}{T:Act->Prop}{A B:List Oper}{tail:List Nat}(he:ops.toList=A++B)(hs:Sim O β S a w)(ht:T a)(h:Qah P ops.toList A K S)(hT:∀ o∈ops.toList,∀ (a:Act) (v:Value),T a->T (a.put o.dst v))(hK:∀ β S a w,Sim O β S a w->T a->K S->wpOpsIn (wd rd) n P ops Q tail a w):wpOpsIn (wd rd) n P ops Q (Jg 0 A.length++tail) a w:=by
 have:=QaJ (P:=P) (rd:=rd) (n:=n) (O:=O) (ops:=ops) (Q:=Q) (tail:=tail) hT (K:=K) hK A [] B (by rw[he]; simp) β S a w hs ht h
 simpa using this
def Qkl{rd:Option Nat}{n:Nat}{ops:Array Oper}{Q:Exit->Act->World->Prop}{K:St->Prop}{T:Act->Prop}{A B:List Oper}(he:ops.toList=A++B)(hs:Sim O β S a w)(ht:T a)(h:Qah P ops.toList B K S)(hT:∀ o∈ops.toList,∀ (a:Act) (v:Value),T a->T (a.put o.dst v))(hK:∀ β S a w,Sim O β S a w->T a->K S->Q .normal a w):wpOpsIn (wd rd) n P ops Q (Jg A.length B.length) a w:=by
 have:=QaJ (P:=P) (rd:=rd) (n:=n) (O:=O) (ops:=ops) (Q:=Q) (tail:=[]) hT (K:=K) (fun β S a w h1 h2 h3=>hK β S a w h1 h2 h3) B A [] (by rw[he]; simp) β S a w hs ht h
 simpa using this
def QlQ{X Y Z:World}(h:X.grownBy Y none)(g:Y.grownBy Z none):X.grownBy Z none:=
 ⟨g.os.trans h.os,g.tape.trans h.tape,g.output.trans h.output,Nat.le_trans h.size g.size,fun k hk hn=>(g.block k (Nat.lt_of_lt_of_le hk h.size) hn).trans (h.block k hk hn)⟩
def QFh(hf:P.funcs[gf]?=some fn)(hb:fn.body=some (.seq (.region i0 ops0 false) (.block 0 (.loop (.seq (.seq (.region i1 ops1 false) (.cond (.tmp 11) .skip (.exit 0))) (.block 1 (.seq (.seq (.region i2 ops2 false) (.cond (.tmp 25) (.seq (.region i3 ops3 false) .ret) .skip)) (.seq (.region i4 ops4 false) (.seq (.seq (.region i5 ops5 false) (.cond (.tmp 43) .ret .skip)) (.region i6 ops6 false))))))))))(hres:fn.results=#[])(hnt:fn.ntmps=47)(h3s:ops3.toList=A3++[y3])(hy3:y3.op=.call cl3)(hy3c:cl3.callee=.value (.tmp 26))(hy3a:cl3.args=#[.tmp 27,.tmp 28])(hy3g:y3.guard=none)(h5s:ops5.toList=A5++[y5]++[z5])(hy5:y5.op=.call cl5)(hy5c:cl5.callee=.value (.tmp 38))(hy5a:cl5.args=#[.tmp 39,.tmp 41])(hy5g:y5.guard=none)(hy5d:y5.dst=some 42)(h6s:ops6.toList=A6++B6)(hds:∀ o∈ops0.toList++ops1.toList++ops2.toList++ops3.toList++ops4.toList++ops5.toList++ops6.toList,∀ t:Nat,t<5->o.dst≠some t)(hd7:∀ o∈ops5.toList++ops6.toList,o.dst≠some 7)(pos:Nat->Int)(N:Nat)(bad:Nat->Bool)(dE dF:Nat->DV)(csE:Nat->List PV)(ff:FuncId)(above:Int)(hfF:∀ k,k<N->(dF k).fix=true)(hfE:∀ k,k<N->bad k=false->(dE k).fix=true)(hfC:∀ k,k<N->(csE k).all PV.fix=true)(hN:∀ k,k<N->bad k=true->k+1=N)(hpos:∀ k,k<N->above<pos k)(hdn:∀ k,k<N->bad k=false->pos (k+1)<pos k)(h0:∀ l:Nat,Qah P ops0.toList ops0.toList (fun S=>S.hp=[]/\look S.tm 6=.int .i64 (pos 0)) ⟨47,0,[(0,.fn (.yield l) [] []),(1,.ip c1),(2,.ip c2),(3,.ip c3),(4,.ip c4)],[]⟩)(h1:∀ (l k:Nat),k<=N->(∀ j,j<k->bad j=false)->Qah P ops1.toList ops1.toList (fun S=>S.hp=[]/\look S.tm 6=.int .i64 (pos k)/\look S.tm 11=.bool (decide (k<N))) (bkS c1 c2 c3 c4 l (pos k)))(h2:∀ (l k:Nat),k<N->Qah P ops2.toList ops2.toList (fun S=>S.hp=[]/\look S.tm 6=.int .i64 (pos k)/\look S.tm 25=.bool (bad k)) (bkS c1 c2 c3 c4 l (pos k)))(h3:∀ (l k:Nat),k<N->bad k=true->Qah P ops3.toList A3 (fun S=>S.hp=[]/\look S.tm 26=.fn (.yield l) [] []/\look S.tm 27=.int .i64 (pos k)/\look S.tm 28=dF k) (bkS c1 c2 c3 c4 l (pos k)))(h4:∀ (l k:Nat),k<N->bad k=false->Qah P ops4.toList ops4.toList (fun S=>(∃ T,S.hp=[⟨T,true,(csE k).map .pv⟩])/\look S.tm 6=.int .i64 (pos k)/\look S.tm 7=.ptr 0 0) (bkS c1 c2 c3 c4 l (pos k)))(h5:∀ (l k:Nat),k<N->bad k=false->Qah P ops5.toList A5 (fun S=>S.hp=[]/\look S.tm 6=.int .i64 (pos k)/\look S.tm 38=.fn (.yield l) [] []/\look S.tm 39=.int .i64 (pos k)/\look S.tm 41=dF k) (bkX c1 c2 c3 c4 l (pos k) (csE k)))(h5z:∀ (n:Int) (b:Bool),Qah P ops5.toList [z5] (fun S=>S.hp=[]/\look S.tm 6=.int .i64 n/\look S.tm 43=.bool !b) ⟨47,0,[(42,.bool b),(6,.int .i64 n)],[]⟩)(h6:∀ (l k:Nat),k<N->bad k=false->Qah P ops6.toList A6 (fun S=>S.hp=[]/\look S.tm 44=.pv (.lit (.func (.func ff) #[] #[]))/\look S.tm 45=dE k) (bkX c1 c2 c3 c4 l (pos k) (csE k)))(h6b:∀ k,k<N->bad k=false->Qah P ops6.toList B6 (fun S=>S.hp=[]/\look S.tm 6=.int .i64 (pos (k+1))) ⟨47,0,[(45,dE k),(44,.fn (.func ff) [] [])],[]⟩):
 QEw P gf [.ip c1,.ip c2,.ip c3,.ip c4] N (fun k=>#[.int .i64 (pos k),(dF k).val]):=by
 intro vs l J Jx W0 hJ hJx hcp hY hJ0
 have hT:∀ (o:Oper),o∈ops0.toList++ops1.toList++ops2.toList++ops3.toList++ops4.toList++ops5.toList++ops6.toList->∀ (a:Act) (v:Value),BkA l vs a->BkA l vs (a.put o.dst v):=fun o ho a v h=>h.put (hds o ho) v
 have hTB:∀ (u:Value) (o:Oper),o∈ops5.toList++ops6.toList->∀ (a:Act) (v:Value),BkB l vs u a->BkB l vs u (a.put o.dst v):=fun u o ho a v h=>h.put (hds o (by rcases List.mem_append.1 ho with q | q<;>simp[q])) (hd7 o ho) v
 have hvs:vs.size=4:=(hcp 0 W0 hJ0).1.symm
 show CallsIn (wd none) 9 P gf _ W0 _
 refine callsIn_of_wp (F:=wd none) (n:=9) hf hb trivial ?_
 rw[hnt]
 obtain⟨s1,s2,s3⟩:=QC1 (.func (.yield l) #[] #[]) hvs
 generalize ((#[Value.func (.yield l) #[] #[]]++vs)++Jf (47-(#[Value.func (.yield l) #[] #[]]++vs).size) undef)=t0 at s1 s2 s3 |-
 have hsim0:Sim ⟨W0,QdT,[],[]⟩ QdT ⟨47,0,[(0,.fn (.yield l) [] []),(1,.ip c1),(2,.ip c2),(3,.ip c3),(4,.ip c4)],[]⟩ { tmps:=t0,defers:=[] } W0:=by
  have hc:=hcp 0 W0 hJ0
  refine⟨rfl,s1,fun t=>?_,QtU W0,Evo.refl _ _ _,rfl⟩
  simp only[look]
  split
  ·rename_i e; subst e; rw[s2]; exact QiJ
  split
  ·rename_i e; subst e; rw[s3 0 (by decide)]; exact hc.2 0 _ rfl
  split
  ·rename_i e; subst e; rw[s3 1 (by decide)]; exact hc.2 1 _ rfl
  split
  ·rename_i e; subst e; rw[s3 2 (by decide)]; exact hc.2 2 _ rfl
  split
  ·rename_i e; subst e; rw[s3 3 (by decide)]; exact hc.2 3 _ rfl
  ·exact .any _
 refine wpIn_seq (QeA (T:=BkA l vs) hsim0 ⟨s1,s2,s3⟩ (h0 l) (fun o ho=>hT o (by simp[ho])) ?_)
 rintro β1 S1 a1 W1 hs1 ht1 ⟨-,e2⟩
 have lk:∀ {β:Map} {S:St} {a:Act} {W W':World} {t:Nat} {v:Value},Sim ⟨W,QdT,[],[]⟩ β S a W'->look S.tm t=.pv (.lit v)->a.tmps.getD t undef=v:=by
  intro β S a W W' t v hs e
  have:=hs.tm t
  rw[e] at this
  exact Qj this
 have hi1:BkI l vs pos N bad J 0 a1 W1:=⟨Nat.zero_le _,fun j hj=>absurd hj (Nat.not_lt_zero _),hs1.defers,ht1,lk hs1 e2,hJ _ _ _ hJ0 hs1.quiet⟩
 refine wpIn_block ?_
 refine wpIn_loop (fun a W=>∃ k,BkI l vs pos N bad J k a W) (fun a _=>match a.tmps.getD 6 undef with | .int _ i=>(i-above).toNat | _=>0) ⟨_,hi1⟩ ?_
 rintro a W ⟨k,hk,hre,hde,hit,hi6,hj⟩
 refine wpIn_seq (wpIn_seq (QeA (T:=BkA l vs) (QuY hde hit hi6 (hcp _ _ hj)) hit (h1 l k hk hre) (fun o ho=>hT o (by simp[ho])) ?_))
 rintro β2 S2 a2 W2 hs2 ht2 ⟨-,e2,e3⟩
 have hj2:=hJ _ _ _ hj hs2.quiet
 have hi2:=lk hs2 e2
 refine wpIn_cond (lk hs2 e3) ?_
 by_cases hkN:k<N
 rotate_left
 ·obtain rfl:k = N:=by omega
  rw[decide_eq_false hkN]
  refine wpIn_exit ?_
  simp only[Exit.then,Exit.inBlock,if_true]
  exact⟨hs2.defers,_,results_none hres _ _ _,⟨_,rfl⟩,.inl hj2⟩
 rw[decide_eq_true hkN]
 refine wpIn_skip ?_
 refine wpIn_block (wpIn_seq (wpIn_seq (QeA (T:=BkA l vs) (QuY hs2.defers ht2 hi2 (hcp _ _ hj2)) ht2 (h2 l k hkN) (fun o ho=>hT o (by simp[ho])) ?_)))
 rintro β3 S3 a3 W3 hs3 ht3 ⟨-,f2,f3⟩
 have hj3:=hJ _ _ _ hj2 hs3.quiet
 have hi3:=lk hs3 f2
 refine wpIn_cond (lk hs3 f3) ?_
 cases hbad:bad k
 rotate_left
 ·-- the number is out of the log
  refine wpIn_seq (wpIn_region ?_)
  have hr3:Jq ops3.size=Jg 0 A3.length++[A3.length]:=by
   have:ops3.size=A3.length+1:=by have:=congrArg Jp h3s; simpa using this
   rw[this,Jj,Je]
  rw[hr3]
  refine Qgw (T:=BkA l vs) h3s (QuY hs3.defers ht3 hi3 (hcp _ _ hj3)) ht3 (h3 l k hkN hbad) (fun o ho=>hT o (by simp[ho])) ?_
  rintro β4 S4 a4 W4 hs4 ht4 ⟨-,g2,g3,g4⟩
  have hy3i:ops3[A3.length]?=some y3:=by
   have:ops3.toList[A3.length]?=some y3:=by rw[h3s]; simp
   simpa using this
  have g2':=hs4.tm 26
  rw[g2] at g2'
  have g4':=hs4.tm 28
  rw[g4] at g4'
  have q1:a4.eval (.tmp 27)=.int .i64 (pos k):=lk hs4 g3
  have q2:a4.eval (.tmp 28)=(dF k).val:=DV.fix_eq (hfF k hkN) g4'
  refine QfB hy3i (by simp[Region.wanted,hy3g]) (Qil hy3 hy3c (Qez g2') (args:=#[.int .i64 (pos k),(dF k).val]) (by rw[hy3a]; simp only[Jo,Jr,Js,q1,q2]) (hY k hkN W3 W4 hj3 hs4.quiet) ?_)
  rintro e Z (⟨rfl,hZ,-⟩ | ⟨rfl,hZ⟩)
  ·refine ⟨_,rfl,wpIn_ret ?_⟩
   simp only[Exit.then,Exit.inBlock]
   exact⟨by rw[QbH]; exact hs4.defers,_,results_none hres _ _ _,⟨_,rfl⟩,.inl (by rw[<- hN k hkN hbad]; exact hZ)⟩
  ·refine ⟨_,rfl,wpIn_ret ?_⟩
   simp only[Exit.then,Exit.inBlock]
   exact⟨by rw[QbH]; exact hs4.defers,_,results_none hres _ _ _,⟨_,rfl⟩,.inr hZ⟩
 -- an entry
 refine wpIn_skip ?_
 refine wpIn_seq (QeA (T:=BkA l vs) (QuY hs3.defers ht3 hi3 (hcp _ _ hj3)) ht3 (h4 l k hkN hbad) (fun o ho=>hT o (by simp[ho])) ?_)
 rintro β4 S4 a4 W4 hs4 ht4 ⟨⟨T4,g1⟩,g2,g3⟩
 have hi4:=lk hs4 g2
 have hq34:=hs4.quiet
 have hj4:=hJ _ _ _ hj3 hq34
 have g3':=hs4.tm 7
 rw[g3] at g3'
 obtain⟨b,hbx,hbn⟩:=QA0 hs4.evo hs4.heap (k:=0) (T:=T4) (cs:=csE k) (by rw[g1]; rfl) g3'
 generalize hv7:a4.tmps.getD 7 undef=v7 at g3' hbx
 have ht4':BkB l vs v7 a4:=⟨ht4,hv7⟩
 refine wpIn_seq (wpIn_seq (wpIn_region ?_))
 have hsz5:ops5.size=A5.length+1+1:=by have:=congrArg Jp h5s; simpa using this
 have hr5:Jq ops5.size=Jg 0 A5.length++([A5.length]++[A5.length+1]):=by
  rw[hsz5,Jj,Jj,Je,Jm]
 rw[hr5]
 refine Qgw (T:=BkB l vs v7) (B:=[y5]++[z5]) (by rw[h5s,Jm]) (Qzb hs4.defers ht4' hi4 (hcp _ _ hj4) hbx.seen) ht4' (h5 l k hkN hbad) (fun o ho=>hTB v7 o (by simp[ho])) ?_
 rintro β5 S5 a5 W5 hs5 ht5 ⟨-,k2,k3,k4,k5⟩
 have hq45:=hs5.quiet
 have hi5:=lk hs5 k2
 have hy5i:ops5[A5.length]?=some y5:=by
  have:ops5.toList[A5.length]?=some y5:=by rw[h5s]; simp
  simpa using this
 have k3':=hs5.tm 38
 rw[k3] at k3'
 have k5':=hs5.tm 41
 rw[k5] at k5'
 have q1:a5.eval (.tmp 39)=.int .i64 (pos k):=lk hs5 k4
 have q2:a5.eval (.tmp 41)=(dF k).val:=DV.fix_eq (hfF k hkN) k5'
 have hq35:W3.grownBy W5 none:=QlQ hq34 hq45
 refine QfB hy5i (by simp[Region.wanted,hy5g]) (Qil hy5 hy5c (Qez k3') (args:=#[.int .i64 (pos k),(dF k).val]) (by rw[hy5a]; simp only[Jo,Jr,Js,q1,q2]) (hY k hkN W3 W5 hj3 hq35) ?_)
 -- QR a round
 have rest:∀ (bo:Bool) (Z:World) (Q:Exit->Act->World->Prop),(∀ β6 S6 a6 W6,Sim ⟨Z,QdT,[],[]⟩ β6 S6 a6 W6->BkB l vs v7 a6->look S6.tm 6=.int .i64 (pos k)->look S6.tm 43=.bool !bo->Q .normal a6 W6) ->
  wpOpsIn (wd none) 9 P ops5 Q [A5.length+1] (a5.put y5.dst (.bool bo)) Z:=by
  intro bo Z Q hQ
  have hT':=hTB v7 y5 (by simp[h5s]) a5 (.bool bo) ht5
  have hs':Sim ⟨Z,QdT,[],[]⟩ QdT ⟨47,0,[(42,.bool bo),(6,.int .i64 (pos k))],[]⟩ (a5.put y5.dst (.bool bo)) Z:=by
   refine⟨by rw[QbH]; exact hs5.defers,hT'.b.s,fun t=>?_,QtU Z,Evo.refl _ _ _,rfl⟩
   simp only[look]
   split
   ·rename_i e; subst e; rw[hy5d,Qbx (fun u hu=>by cases hu; rw[ht5.b.s]; decide),if_pos rfl]; exact .pv _ _ (.lit _ rfl)
   split
   ·rename_i e; subst e; rw[hy5d,QdG (by decide),hi5]; exact .pv _ _ (.lit _ rfl)
   ·exact .any _
  have:=Qkl (P:=P) (rd:=none) (n:=9) (Q:=Q) (T:=BkB l vs v7) (A:=A5++[y5]) (B:=[z5]) h5s hs' hT' (h5z (pos k) bo) (fun o ho=>hTB v7 o (by simp[ho])) (fun β6 S6 a6 W6 m1 m2 m3=>hQ β6 S6 a6 W6 m1 m2 m3.2.1 m3.2.2)
  simpa using this
 rintro e Z (⟨rfl,hZ,hkeep⟩ | ⟨rfl,hZ⟩)
 rotate_left
 ·refine ⟨_,rfl,rest false Z _ ?_⟩
  rintro β6 S6 a6 W6 hs6 ht6-m3
  refine wpIn_cond (lk hs6 m3) (wpIn_ret ?_)
  simp only[Exit.then,Exit.inBlock]
  exact⟨hs6.defers,_,results_none hres _ _ _,⟨_,rfl⟩,.inr (hJx _ _ hZ hs6.quiet)⟩
 refine⟨_,rfl,rest true Z _ ?_⟩
 rintro β6 S6 a6 W6 hs6 ht6 m2 m3
 have hi6':=lk hs6 m2
 refine wpIn_cond (lk hs6 m3) (wpIn_skip ?_)
 show Code.wpIn (wd none) 9 P (.region i6 ops6 false) _ a6 W6
 refine wpIn_region ?_
 have hr6:Jq ops6.size=Jg 0 A6.length++Jg A6.length B6.length:=by
  have:ops6.size=A6.length+B6.length:=by have:=congrArg Jp h6s; simpa using this
  rw[this,Je,<- List.range'_append_1]; simp
 rw[hr6]
 have hj6:=hJ _ _ _ hZ hs6.quiet
 have hb5:∀ o:Obj,W4.heap[b]?=some o->W6.heap[b]?=some o:=fun o ho=>by
  have hlt:=(Jb.1 ho).1
  have p1:W5.heap[b]?=some o:=by rw[hq45.block b hlt (by simp)]; exact ho
  have p2:=hkeep b o hbn p1
  rw[hs6.quiet.block b (Jb.1 p2).1 (by simp)]; exact p2
 have hbx6:=hbx.keep (hfC k hkN) hb5
 refine Qgw (T:=BkB l vs v7) h6s (Qzb hs6.defers ht6 hi6' (hcp _ _ hj6) hbx6.seen) ht6 (h6 l k hkN hbad) (fun o ho=>hTB v7 o (by simp[ho])) ?_
 rintro β7 S7 a7 W7 hs7 ht7 ⟨-,n2,n3⟩
 have hj7:=hJ _ _ _ hj6 hs7.quiet
 have n3':=hs7.tm 45
 rw[n3] at n3'
 have hsim7:Sim ⟨W7,QdT,[],[]⟩ QdT ⟨47,0,[(45,dE k),(44,.fn (.func ff) [] [])],[]⟩ a7 W7:=by
  have n2':=lk hs7 n2
  refine⟨hs7.defers,ht7.b.s,fun t=>?_,QtU W7,Evo.refl _ _ _,rfl⟩
  simp only[look]
  split
  ·rename_i e; subst e; rw[DV.fix_eq (hfE k hkN hbad) n3']; exact DV.fix_rel (hfE k hkN hbad)
  split
  ·rename_i e; subst e; rw[n2']; exact .fn _ [] [] #[] #[] rfl rfl (by simp) (by simp)
  ·exact .any _
 refine Qkl (T:=BkB l vs v7) h6s hsim7 ht7 (h6b k hkN hbad) (fun o ho=>hTB v7 o (by simp[ho])) ?_
 rintro β8 S8 a8 W8 hs8 ht8 ⟨-,r2⟩
 have hi8:=lk hs8 r2
 refine⟨⟨k+1,by omega,fun j hjk=>?_,hs8.defers,ht8.b,hi8,hJ _ _ _ hj7 hs8.quiet⟩,?_⟩
 ·rcases Nat.lt_succ_iff_lt_or_eq.1 hjk with q | rfl
  ·exact hre j q
  ·exact hbad
 ·show (match a8.tmps.getD 6 undef with | .int _ i=>(i - above).toNat | _=>0) < (match a.tmps.getD 6 undef with | .int _ i=>(i - above).toNat | _=>0)
  rw[hi8,hi6]
  dsimp only
  have:=hdn k hkN hbad
  have:=hpos k hkN
  exact(Int.toNat_lt_toNat (by omega)).2 (by omega)
def QCQ(hf:P.funcs[gf]?=some fn)(hb:fn.body=some (.seq (.region i0 ops0 false) (.block 0 (.loop (.seq (.seq (.region i1 ops1 false) (.cond (.tmp 11) .skip (.exit 0))) (.block 1 (.seq (.seq (.region i2 ops2 false) (.cond (.tmp 25) (.seq (.region i3 ops3 false) .ret) .skip)) (.seq (.region i4 ops4 false) (.seq (.seq (.region i5 ops5 false) (.cond (.tmp 43) .ret .skip)) (.region i6 ops6 false))))))))))(hres:fn.results=#[])(hnt:fn.ntmps=47)(h3s:ops3.toList=[u0,u1,u2,y3])(hy3:y3.op=.call cl3)(hy3c:cl3.callee=.value (.tmp 26))(hy3a:cl3.args=#[.tmp 27,.tmp 28])(hy3g:y3.guard=none)(h5s:ops5.toList=[q0,q1,q2,q3,y5,z5])(hy5:y5.op=.call cl5)(hy5c:cl5.callee=.value (.tmp 38))(hy5a:cl5.args=#[.tmp 39,.tmp 41])(hy5g:y5.guard=none)(hy5d:y5.dst=some 42)(h6s:ops6.toList=[r0,r1,r2,r3])(hds:∀ o∈ops0.toList++ops1.toList++ops2.toList++ops3.toList++ops4.toList++ops5.toList++ops6.toList,∀ t:Nat,t<5->o.dst≠some t)(hd7:∀ o∈ops5.toList++ops6.toList,o.dst≠some 7)(pos:Nat->Int)(N:Nat)(bad:Nat->Bool)(dE dF:Nat->DV)(csE:Nat->List PV)(ff:FuncId)(above:Int)(hfF:∀ k,k<N->(dF k).fix=true)(hfE:∀ k,k<N->bad k=false->(dE k).fix=true)(hfC:∀ k,k<N->(csE k).all PV.fix=true)(hN:∀ k,k<N->bad k=true->k+1=N)(hpos:∀ k,k<N->above<pos k)(hdn:∀ k,k<N->bad k=false->pos (k+1)<pos k)(h0:∀ l:Nat,Qah P ops0.toList ops0.toList (fun S=>S.hp=[]/\look S.tm 6=.int .i64 (pos 0)) ⟨47,0,[(0,.fn (.yield l) [] []),(1,.ip c1),(2,.ip c2),(3,.ip c3),(4,.ip c4)],[]⟩)(h1:∀ (l k:Nat),k<=N->(∀ j,j<k->bad j=false)->Qah P ops1.toList ops1.toList (fun S=>S.hp=[]/\look S.tm 6=.int .i64 (pos k)/\look S.tm 11=.bool (decide (k<N))) (bkS c1 c2 c3 c4 l (pos k)))(h2:∀ (l k:Nat),k<N->Qah P ops2.toList ops2.toList (fun S=>S.hp=[]/\look S.tm 6=.int .i64 (pos k)/\look S.tm 25=.bool (bad k)) (bkS c1 c2 c3 c4 l (pos k)))(h3:∀ (l k:Nat),k<N->bad k=true->Qah P ops3.toList [u0,u1,u2] (fun S=>S.hp=[]/\look S.tm 26=.fn (.yield l) [] []/\look S.tm 27=.int .i64 (pos k)/\look S.tm 28=dF k) (bkS c1 c2 c3 c4 l (pos k)))(h4:∀ (l k:Nat),k<N->bad k=false->Qah P ops4.toList ops4.toList (fun S=>(∃ T,S.hp=[⟨T,true,(csE k).map .pv⟩])/\look S.tm 6=.int .i64 (pos k)/\look S.tm 7=.ptr 0 0) (bkS c1 c2 c3 c4 l (pos k)))(h5:∀ (l k:Nat),k<N->bad k=false->Qah P ops5.toList [q0,q1,q2,q3] (fun S=>S.hp=[]/\look S.tm 6=.int .i64 (pos k)/\look S.tm 38=.fn (.yield l) [] []/\look S.tm 39=.int .i64 (pos k)/\look S.tm 41=dF k) (bkX c1 c2 c3 c4 l (pos k) (csE k)))(h5z:∀ (n:Int) (b:Bool),Qah P ops5.toList [z5] (fun S=>S.hp=[]/\look S.tm 6=.int .i64 n/\look S.tm 43=.bool !b) ⟨47,0,[(42,.bool b),(6,.int .i64 n)],[]⟩)(h6:∀ (l k:Nat),k<N->bad k=false->Qah P ops6.toList [r0,r1] (fun S=>S.hp=[]/\look S.tm 44=.pv (.lit (.func (.func ff) #[] #[]))/\look S.tm 45=dE k) (bkX c1 c2 c3 c4 l (pos k) (csE k)))(h6b:∀ k,k<N->bad k=false->Qah P ops6.toList [r2,r3] (fun S=>S.hp=[]/\look S.tm 6=.int .i64 (pos (k+1))) ⟨47,0,[(45,dE k),(44,.fn (.func ff) [] [])],[]⟩):
 QEw P gf [.ip c1,.ip c2,.ip c3,.ip c4] N (fun k=>#[.int .i64 (pos k),(dF k).val]):=
 QFh (A3:=[u0,u1,u2]) (A5:=[q0,q1,q2,q3]) (A6:=[r0,r1]) (B6:=[r2,r3]) hf hb hres hnt h3s hy3 hy3c hy3a hy3g h5s hy5 hy5c hy5a hy5g hy5d h6s hds hd7 pos N bad dE dF csE ff above hfF hfE hfC hN hpos hdn h0 h1 h2 h3 h4 h5 h5z h6 h6b
end Go.V
namespace Go.V
def VR(P:Program)(c:Code)(Q:Exit->St->Prop)(S:St):Prop:=∀ (rd:Option Nat) (n:Nat) (O:Org) (β:Map) (a:Act) (w:World),Sim O β S a w->c.wpIn (wd rd) n P (QlC O Q) a w
@[congr] def QEJ(c:Code)(Q:Exit->St->Prop)(h:S=S'):VR P c Q S=VR P c Q S':=by rw[h]
variable {P:Program}
theorem BodyOf.vr:BodyOf P body (VR P body):=fun rd n _ _ h O β a w hs=>h rd n O β a w hs
theorem VR.plain(hp:QaF c=true)(h:Qx P c Q S):VR P c Q S:=fun _ _ _ _ _ _ hs=>Q3 c Q S hp h _ _ _ _ hs
theorem VR.seq(h:VR P x (Qad Q (VR P y Q)) S):VR P (.seq x y) Q S:=fun rd n O β a w hs=>by
 refine wpIn_seq (wpIn_mono (h rd n O β a w hs) fun e a' w' hq=>?_)
 obtain⟨β',S',hs',hq⟩:=hq
 cases e with
 | normal=>exact hq rd n O β' a' w' hs'
 | _=>exact⟨β',S',hs',hq⟩
theorem VR.first(hp:QaF x=true)(h:Qx P x (Qad Q (VR P y Q)) S):VR P (.seq x y) Q S:=.seq (.plain hp h)
theorem VR.draw{id:Nat}(hm:P.follows .mixedOrders=true)(hB:QdU ops=true)(h:vdr P ops.toList ops.toList [] (Q .normal) S):VR P (.region id ops true) Q S:=fun _ _ _ _ _ _ hs=>Qyv hm hB h _ _ _ _ hs
theorem VR.cond(ht:S.ev c=.pv (.lit (.bool t)))(h1:t=true->VR P x Q S)(h2:t=false->VR P y Q S):VR P (.cond c x y) Q S:=fun rd n O β a w hs=>by
 have hc:=hs.ev c
 rw[ht] at hc
 refine wpIn_cond (Qj hc) ?_
 cases t
 ·exact h2 rfl rd n O β a w hs
 ·exact h1 rfl rd n O β a w hs
theorem VR.block {id:Nat} (h:VR P c (QaD id Q) S):VR P (.block id c) Q S:=fun rd n O β a w hs=>by
 refine wpIn_block (wpIn_mono (h rd n O β a w hs) fun e a' w' hq=>?_)
 obtain⟨β',S',hs',hq⟩:=hq
 cases e with
 | exit id' =>
   simp only[QaD] at hq
   simp only[Exit.inBlock]
   split
   ·rename_i he; rw[if_pos he] at hq; exact⟨β',S',hs',hq⟩
   ·rename_i he; rw[if_neg he] at hq; exact⟨β',S',hs',hq⟩
 | _=>exact⟨β',S',hs',hq⟩
end Go.V
namespace Go.V
open Go
def dd(hf:P.funcs[g]?=some fn)(hc:Qx P c (QcR P fn.results.toList h.length R) ⟨fn.ntmps,h.length,Qgs 0 args,h⟩)(hb:fn.body=some c:=by exact rfl)(hname:(fn.name == "runtime.NumGoroutine")=false:=by kernel_rfl)(hn:args.length<=fn.ntmps:=by exact Nat.le_of_ble_eq_true rfl):VCalls P g args h R:=QmD hf hb hname hn hc
def dk(hf:P.funcs[g]?=some fn)(hc:Qx P c (QfD P fn.results.toList h.length R) ⟨fn.ntmps,h.length,Qgs 0 args,h⟩)(hb:fn.body=some c:=by exact rfl)(hname:(fn.name == "runtime.NumGoroutine")=false:=by kernel_rfl)(hn:args.length<=fn.ntmps:=by exact Nat.le_of_ble_eq_true rfl):VCalls P g args h R:=QkD hf hb hname hn hc
end Go.V
