/-
  Contracts of functions and plain laws. No condition.
-/
import Derived.Test.YtalibkpienbliaaGreatV3
import Derived.WideKeyRuns
import Derived.Maps.RangeRun
import Derived.BigFrame
set_option linter.unusedSimpArgs false
set_option linter.unusedVariables false
set_option linter.defProp false
set_option maxRecDepth 100000
set_option maxHeartbeats 8000000
set_option autoImplicit true
set_option relaxedAutoImplicit true
open Array renaming getElem?_eq_some_iff->Jf,getD_eq_getD_getElem?->Ji,getElem?_eq_getElem->Jk,toList_filter->Jt
open Bool renaming false_eq_true->Ju
open List renaming mem_iff_getElem?->Ja,mem_map->Jb,getElem?_eq_some_iff->Jc,getElem?_eraseIdx->Jd,mem_singleton->Je,getElem?_eq_getElem->Jg,findIdx?_cons->Jj,findIdx?_eq_none_iff->Jl,map_cons->Jm,getElem_map->Jo,getElem_inj->Jp,mem_filter->Jq,filter_eq_self->Js,pairwise_map->Jv,getElem?_map->Jw,filter_cons->Jy,nodup_cons->Jz,length->JB
open Nat renaming le_refl->Jn,le_of_ble_eq_true->Jr
open Option renaming some->Jh,getD_some->Jx,map_some->JA
namespace Go.V
open Go.MapKept Go.ChangeMaps
variable {P:Program} {γ:Type} {Γ:γ->World->World->Map->Qb->Prop}
def k2(p:Int×Int):Value:=.agg #[.int .i64 p.1,.int .i64 p.2]
def k2D(p:Int×Int):DV:=.agg [.int .i64 p.1,.int .i64 p.2]
theorem rS(w:World)(β:Map)(hp:Qb)(p:Int×Int):RelD w β hp (k2D p) (k2 p):=by
 refine .agg _ _ rfl fun i d hd=>?_;rcases i with _|_|i<;>simp at hd<;>subst hd<;>exact .pv _ _ (.lit _ rfl)
theorem mD (h:RelD w β hp (k2D p) v):v = k2 p:=by
 cases h with
 |agg _ vs hl hv =>
   have h0:=hv 0 _ rfl;have h1:=hv 1 _ rfl;have e0:=Qk h0;have e1:=Qk h1;unfold k2;congr 1;apply Array.ext
   ·simpa using hl.symm
   ·intro j j1 j2;have:j=0\/j=1:=by simp at j2;omega
    rcases this with rfl|rfl
    ·simp only[Ji,Jk j1,Jx] at e0;rw[e0];rfl
    ·simp only[Ji,Jk j1,Jx] at e1;rw[e1];rfl
theorem Z2(hu:P.underlying kt=some (.struct #[f1,f2]))(t1:P.underlying f1.type=some (.int .i64))(t2:P.underlying f2.type=some (.int .i64))(v1:vt P f1.type=some none)(v2:vt P f2.type=some none)(o1:f1.offset=0)(o2:f2.offset=1)(e:Bool)(w:World)(p:Int×Int):(Instr.checkKey e (m+2) kt (k2 p)).run P w=.ok () w:=by
 have c1:∀i:Int,(Instr.checkKey e (m+1) f1.type (.int .i64 i)).run P w=.ok () w:=fun i=>by simp[Instr.checkKey,run_underlying t1]
 have c2:∀i:Int,(Instr.checkKey e (m+1) f2.type (.int .i64 i)).run P w=.ok () w:=fun i=>by simp[Instr.checkKey,run_underlying t2]
 have p1:(part f1.type #[Value.int .i64 p.1,Value.int .i64 p.2] f1.offset).run P w=.ok (.int .i64 p.1) w:=by simp[part,(jD v1 w).1,o1]
 have p2:(part f2.type #[Value.int .i64 p.1,Value.int .i64 p.2] f2.offset).run P w=.ok (.int .i64 p.2) w:=by simp[part,(jD v2 w).1,o2]
 unfold k2 Instr.checkKey;simp only[Sem.run_bind,run_underlying hu,Result.andThen];by_cases n1:f1.name = "_"<;>by_cases n2:f2.name = "_"<;>simp[n1,n2,Sem.run_bind,p1,p2,c1,c2,Result.andThen]
theorem E9 (heq:∀(w:World) (p q:Int × Int),(Op.equal kt (k2 p) (k2 q)).run P w = .ok (decide (q = p)) w) (w:World) (p:Int × Int):∀(l:List MapEntry) (ks:List (Int × Int)) (i:Nat),l.map (·.key) = ks.map k2 ->
 (Instr.findAsking kt (k2 p) l i).run P w=.ok ((ks.findIdx? (fun x=>decide (x=p))).bind fun j=>(l[j]?).map fun e=>(i+j,e.val)) w
 |[],[],i,_=>rfl
 |[],_::_,_,h=>by simp at h
 |_::_,[],_,h=>by simp at h
 |e :: l,a :: ks,i,h=>by
   simp only[Jm,List.cons.injEq] at h;have ih:=E9 heq w p l ks (i+1) h.2;unfold Instr.findAsking;simp only[Sem.run_bind,h.1,heq,Result.andThen];by_cases hap:a=p
   ·simp[hap,Jj]
   ·simp only [hap,decide_false,Ju,if_false,ih,Jj];cases hf:ks.findIdx? (fun x=>decide (x=p)) with
    |none=>simp
    |some j=>simp;congr 1;funext x;simp;omega
theorem Py(hu:P.underlying kt=some (.struct #[f1,f2]))(t1:P.underlying f1.type=some (.int .i64))(t2:P.underlying f2.type=some (.int .i64))(v1:vt P f1.type=some none)(v2:vt P f2.type=some none)(o1:f1.offset=0)(o2:f2.offset=1)(hv:vt P kt=some (some 2))(hl:bJ P 3 kt=some [(0,1),(1,1)]):KeyT P kt k2:=by
 have heq:∀(w:World) (p q:Int×Int),(Op.equal kt (k2 p) (k2 q)).run P w=.ok (decide (q=p)) w:=fun w p q=>by
  have:=(vL (P:=P) (w:=w) (β:=⟨fun _=>none,fun _=>False⟩) (hp:=[]) 3 kt _ hl 10000 vj).2 2 hv [.int .i64 p.1,.int .i64 p.2] [.int .i64 q.1,.int .i64 q.2] #[.int .i64 p.1,.int .i64 p.2] #[.int .i64 q.1,.int .i64 q.2] (p.1==q.1&&p.2==q.2)
   (by cases rS w ⟨fun _=>none,fun _=>False⟩ [] p with|agg _ _ h1 h2=>exact⟨h1,h2⟩) (by cases rS w ⟨fun _=>none,fun _=>False⟩ [] q with|agg _ _ h1 h2=>exact⟨h1,h2⟩) (by simp[QZ,bK])
  have e:(p.1==q.1&&p.2==q.2)=decide (q=p):=by
   obtain⟨a,b⟩:=p;obtain⟨c,d⟩:=q;by_cases h1:a=c<;>by_cases h2:b=d<;>simp[h1,h2,Ne.symm]
   all_goals (intro h;first|exact absurd h.symm h1|(intro h';exact absurd h'.symm h2)|exact absurd h.symm h2|skip)
  rw[e] at this;exact this
 refine⟨fun e w p=>Z2 (m:=9998) hu t1 t2 v1 v2 o1 o2 e w p,fun w p l ks h=>?_,fun w p=>?_,fun a b h=>?_⟩
 ·rw [show (Instr.findKey kt (k2 p) l).run P w = (Instr.findAsking kt (k2 p) l).run P w from run_findKey_eq w (by rw [hu]) _ _,E9 heq w p l ks 0 h];simp
 ·simp[Instr.keyThatStays,k2,Instr.sameBits]
 ·unfold k2 at h;simp at h;exact Prod.ext h.1 h.2
section
variable {κ:Type} [DecidableEq κ]
theorem Z3(L:List (κ×DV))(k:κ)(h:(L.map (·.1)).findIdx? (fun x=>decide (x=k))=none):eC L k=L:=by
 rw[Jl] at h;unfold eC;rw[Js];intro p hp;have:=h p.1 (Jb.2 ⟨p,hp,rfl⟩);grind
theorem Fa:∀(L:List (κ × DV)) (k:κ),(L.map (·.1)).Nodup->∀{i:Nat},(L.map (·.1)).findIdx? (fun x=>decide (x = k)) = some i->eC L k = L.eraseIdx i
 |[],_,_,_,h=>by simp at h
 |p :: r,k,hn,i,h=>by
   simp only[Jm,Jz] at hn;simp only[Jm,Jj] at h;by_cases hp:p.1=k
   ·simp only [hp,decide_true,if_true,Jh.injEq] at h;subst h
    have hr:eC r k=r:=by
     unfold eC;rw[Js];intro q hq;have:q.1≠k:=fun e=>hn.1 (by rw[hp,<-e];exact Jb.2 ⟨q,hq,rfl⟩);simpa using this
    unfold eC at hr |-;rw[Jy,if_neg (by simp[hp]),hr];rfl
   ·simp only [hp,decide_false,Ju,if_false] at h;cases hf:(r.map (·.1)).findIdx? (fun x=>decide (x=k)) with
    |none=>rw[hf] at h;simp at h
    |some j =>
      rw[hf] at h;simp at h;subst h;have ih:=Fa r k hn.2 hf;unfold eC at ih |-;rw[Jy,if_pos (by simpa using hp),ih];rfl
end
theorem Z4 [DecidableEq κ] (ht:P.underlying t = some (.map kt et)) (hk:KeyT P kt enc) (h:MapAt w β hp b (ag enc L)) (k:κ):
 ∃es es' clock,w.heap[b]? = some (.map es clock)/\(Builtin.delete_ #[t,kt] ty #[.map (some b),enc k]).run P w = .ok (.tuple #[]) { w with heap:=w.heap.setIfInBounds b (.map es' clock) }/\Stamped es' clock/\es'.toList.map (·.key) = (ag enc (eC L k)).map (·.1) /\
   (∀(i:Nat) (e:MapEntry) (p:Value×DV),es'.toList[i]?=some e->(ag enc (eC L k))[i]?=some p->RelD w β hp p.2 e.val)/\(∀e,e∈es'.toList ↔ e∈es.toList/\e.key≠enc k):=by
 obtain⟨es,clock,h1,h2,h3,h4⟩:=h.at_;have h3':es.toList.map (·.key)=(L.map (·.1)).map enc:=by rw[h3];simp[ag]
 have hf:=hk.find w k es.toList (L.map (·.1)) h3';have hlen:es.toList.length=L.length:=by have:=congrArg JB h3;simpa [ag] using this
 have hnk:(L.map (·.1)).Nodup:=by
  have:=h2.2.2;rw[h3'] at this;exact(Jv.1 this).imp fun h e=>h (by rw[e])
 cases hi:(L.map (·.1)).findIdx? (fun x=>decide (x=k)) with
 |none =>
   rw[hi] at hf;rw[Z3 L k hi]
   have hno:∀e∈es.toList,e.key≠enc k:=fun e he hek=>by
    have:e.key∈(L.map (·.1)).map enc:=by rw[<-h3'];exact Jb.2 ⟨e,he,rfl⟩
    obtain⟨y,hy,e2⟩:=Jb.1 this;rw[Jl] at hi;have:=hi y hy;rw[hk.inj _ _ (e2.trans hek)] at this;simp at this
   refine⟨es,es,clock,h1,?_,h2,h3,h4,fun e=>⟨fun he=>⟨he,hno e he⟩,fun he=>he.1⟩⟩;unfold Builtin.delete_;simp[Sem.run_bind,run_underlying ht,Result.andThen,Go.MapKept.run_getObj_map h1,hk.check,hf,Go.MapKept.run_setObj_map _ h1]
 |some i =>
   have p1:=Fa L k hnk hi
   have hlt:i<L.length:=by
    have:=(List.findIdx?_eq_some_iff_findIdx_eq.1 hi).1;simpa using this
   have hlt2:i<es.size:=by have:=hlen;simp at this;omega
   have e2:es.toList[i]?=some es.toList[i]:=Jg vz
   have hLi:(L[i]).1=k:=by
    obtain⟨h5,h6⟩:=List.findIdx?_eq_some_iff_getElem.1 hi;have:=h6.1;simpa using this
   have hkey:es.toList[i].key=enc k:=by
    have:=congrArg (fun l=>l[i]?) h3';simp only[Jw,e2,Jg hlt,JA,Jh.injEq] at this;rw[this,hLi]
   have het:(es.eraseIdxIfInBounds i).toList=es.toList.eraseIdx i:=by
    unfold Array.eraseIdxIfInBounds;rw[dif_pos hlt2];simp
   rw[hi,Option.bind_some,e2] at hf;refine⟨es,es.eraseIdxIfInBounds i,clock,h1,?_,stamped_erase h2 _,?_,fun j e p q1 q2=>?_,fun e=>?_⟩
   ·unfold Builtin.delete_;simp[Sem.run_bind,run_underlying ht,Result.andThen,Go.MapKept.run_getObj_map h1,hk.check,hf,Go.MapKept.run_setObj_map _ h1]
   ·rw [het,p1,map_eraseIdx,h3'];simp only[ag,map_eraseIdx,List.map_map];rfl
   ·rw [het] at q1;rw[p1] at q2;unfold ag at q2;rw[map_eraseIdx] at q2;rw[Jd] at q1 q2;split at q1
    ·rename_i hj;rw[if_pos hj] at q2;exact h4 j e p q1 q2
    ·rename_i hj;rw[if_neg hj] at q2;exact h4 (j+1) e p q1 q2
   ·rw [het];have hnd:=h2.2.2;have hi2:i<es.toList.length:=vz;constructor
    ·intro he;refine⟨(List.eraseIdx_sublist _ _).subset he,fun hek=>?_⟩;obtain⟨j,hj,hje⟩:=Ja.1 he |>.elim fun j hj=>(⟨j,hj,trivial⟩:∃j,(es.toList.eraseIdx i)[j]?=some e/\True)
     rw[Jd] at hj
     have key:∀m,es.toList[m]?=some e->m=i:=fun m hm=>by
      have hm2:=(Jc.1 hm)
      obtain⟨hm3,hm4⟩:=hm2
      have a1:(es.toList.map (·.key))[m]'(by simpa using hm3)=(es.toList.map (·.key))[i]'(by simpa using hi2):=by
       simp only[Jo];rw[hm4,hek,hkey]
      exact(Jp hnd).1 a1
     split at hj
     ·rename_i hlt3;have:=key j hj;omega
     ·rename_i hlt3;have:=key (j+1) hj;omega
    ·rintro ⟨he,hek⟩;obtain⟨m,hm⟩:=Ja.1 he
     have hmi:m≠i:=fun e3=>by
      subst e3;rw[e2] at hm;simp only[Jh.injEq] at hm;exact hek (by rw[<-hm];exact hkey)
     refine Ja.2 ?_;by_cases hlt3:m<i
     ·exact⟨m,by rw[Jd,if_pos hlt3];exact hm⟩
     ·exact⟨m-1,by rw[Jd,if_neg vz,show m-1+1=m by omega];exact hm⟩
structure It where
 r:Nat
 b:Nat
 left:List Value
 cur:Option Value
structure ItAt(i:It)(w0 w:World):Prop where
 lo:w0.heap.size<=i.r
 ne:i.r≠i.b
 at_:∃es clock seen,w.heap[i.b]?=some (.map es clock)/\Stamped es clock/\w.heap[i.r]?=some (.mapIter (some i.b) clock seen clock)/\(∀e∈es.toList,(seen.contains e.born=true ↔ e.key ∉ i.left))/\(∀k∈i.left,∃e∈es.toList,e.key=k) /\
  (∀k,i.cur=some k->∃(e:MapEntry) (s0:Array Nat),e∈es.toList/\e.key=k/\seen=s0.push e.born)
abbrev pH:=MapsD×List It
def kU(c:bN)(x:pH)(w0 w:World)(β:Map)(hp:Qb):Prop:=MapsIn c x.1 w0 w β hp/\∀i∈x.2,ItAt i w0 w
theorem ItAt.go(h:ItAt i w0 w)(hb:w'.heap[i.b]?=w.heap[i.b]?)(hr:w'.heap[i.r]?=w.heap[i.r]?):ItAt i w0 w':=by
 obtain⟨h1,h2,es,clock,seen,h3,h4,h5,h6⟩:=h;exact⟨h1,h2,es,clock,seen,hb.trans h3,h4,hr.trans h5,h6⟩
theorem jB(c:bN)(x:pH):Stable (kU c x):=fun w0 w β hp w' β' hp' hh e h=>⟨Qa c x.1 w0 w β hp w' β' hp' hh e h.1,fun i hi=>by
 have hI:=h.2 i hi;have hI2:=hI;obtain⟨_,_,es,clock,seen,h3,_,h5,_⟩:=hI2
 exact hI.go ((Evo.others hh e).same _ _ h3 rfl |>.trans h3.symm) ((Evo.others hh e).same _ _ h5 rfl |>.trans h5.symm)⟩
theorem VWpG.its(h:VWpG P (kU c) code (fun e S x=>Q e S x.1) S (g,[])):VWpG P (MapsIn c) code Q S g:=fun O β a w hs=>
 wp_mono (h O β a w ⟨hs.defers,hs.size,hs.tm,hs.heap,hs.evo,hs.g,fun i hi=>by cases hi⟩) fun e a' w' ⟨β',S',x,hs',q⟩=>⟨β',S',x.1,⟨hs'.defers,hs'.size,hs'.tm,hs'.heap,hs'.evo,hs'.g.1⟩,q⟩
theorem MapsIn.up (h:MapsIn c g w0 w β hp) (hu:Up w w') (hg:w.grownBy w' (some r)) (hr:∀p ∈ g,p.1 ≠ r):MapsIn c g w0 w' β hp :=
 ⟨⟨h.1.1,fun p hp=>by
   obtain⟨h1,h2⟩:=h.1.2 p hp;obtain⟨es,clock,q,_⟩:=h2.at_
   exact⟨h1,h2.go (hu.toC _ _) (hg.block _ (Jf.1 q).1 (fun e=>hr p hp (by cases e; rfl)))⟩⟩,h.2.trans (hu.toC _ _)⟩
theorem Fb(hs:SimG G O β S a w)(h:Qn true (S.ev it)=.pv (.lit (.pointer (some ⟨r,0,none⟩)))):a.eval it=.pointer (some ⟨r,0,none⟩):=by
 have:=fM hs it;rw[h] at this;exact Qk this
theorem PG(hop:o.op=.range t m)(hf:S.fits o.dst=true)(ht:P.underlying t=some (.map kt et))(hm:Qn true (S.ev m)=.pv (.lit (.map (some b))))(hL:(b,L)∈g)(hK:∀r,K (S.put o.dst (aw o.guard true (.pv (.lit (.pointer (some ⟨r,0,none⟩)))))) (g,[⟨r,b,L.map (·.1),none⟩])):fp P (kU c) o K S (g,its):=fun O β a w hs=>by
 obtain⟨h1,h2⟩:=hs.g.1.1.2 _ hL;obtain⟨es,clock,q,q2,q3,_⟩:=h2.at_;have em:=fM hs m;rw[hm] at em;have hgr:=World.grownBy_alloc w (.mapIter (some b) clock #[] clock) none;have e1:=Go.MapKept.heap_alloc w (.mapIter (some b) clock #[] clock);have hu:Up w (w.alloc (.mapIter (some b) clock #[] clock)):=Up.grown hgr vv;have hblt:b<w.heap.size:=(Jf.1 q).1;refine⟨.pointer (some ⟨w.heap.size,0,none⟩),w.alloc (.mapIter (some b) clock #[] clock),.inl ?_,β,_,(g,[⟨w.heap.size,b,L.map (·.1),none⟩]),hs.put hu (hs.evo.grown hgr vv) hf (QU (.pv _ _ (.lit _ rfl))) ⟨⟨⟨hs.g.1.1.1,fun p hp=>?_⟩,hs.g.1.2.trans (hu.toC _ _)⟩,?_⟩,hK w.heap.size⟩
 ·simp only [execOp,hop,Qk em];simp[Instr.range,Sem.run_bind,run_underlying ht,Result.andThen,Go.MapKept.run_getObj_map q]
 ·obtain ⟨k1,k2⟩:=hs.g.1.1.2 p hp;obtain⟨es',clock',q',_⟩:=k2.at_;exact⟨k1,k2.go (hu.toC _ _) (e1.2 _ (Jf.1 q').1)⟩
 ·intro i hi;obtain rfl:i=⟨w.heap.size,b,L.map (·.1),none⟩:=by simpa using hi
  refine⟨hs.evo.size,by show w.heap.size≠b;omega,es,clock,#[],(e1.2 _ hblt).trans q,q2,e1.1,fun e he=>⟨fun h=>by simp at h,fun h=>?_⟩,fun k hk=>?_,fun k hk=>by cases hk⟩
  ·exact absurd (by rw[<-q3];exact Jb.2 ⟨e,he,rfl⟩) h
  ·have hk':k ∈ es.toList.map (·.key):=by rw [q3];exact hk
   obtain⟨e,he,hke⟩:=Jb.1 hk';exact⟨e,he,hke⟩
theorem Fc [DecidableEq κ]:∀{L:List (κ × DV)} {k:κ} {d:DV},(L.map (·.1)).Nodup->(k,d) ∈ L->aq L k = some d
 |(a,x) :: r,k,d,hn,h=>by
   simp only[Jm,Jz] at hn;rcases List.mem_cons.1 h with h2|h2
   ·cases h2;simp[aq]
   ·have hne:a ≠ k:=fun e=>hn.1 (by rw [e];exact Jb.2 ⟨_,h2,rfl⟩);rw[aq,if_neg hne];exact Fc hn.2 h2
theorem MapAt.entry{κ:Type}[DecidableEq κ]{enc:κ->Value}{hp:Qb}{b:Nat}{L:List (κ×DV)}(h:MapAt w β hp b (ag enc L)){es:Array MapEntry}{clock:Nat}(hb:w.heap[b]?=some (.map es clock)){e:MapEntry}(he:e∈es.toList):
 ∃k d,e.key=enc k/\aq L k=some d/\RelD w β hp d e.val:=by
 obtain⟨es',clock',h1,h2,h3,h4⟩:=h.at_;rw[hb] at h1;cases h1;obtain⟨j,hj⟩:=Ja.1 he;have h3':es.toList.map (·.key)=(L.map (·.1)).map enc:=by rw[h3];simp[ag]
 have hlen:es.toList.length=L.length:=by have:=congrArg JB h3;simpa [ag] using this
 have hjl:j<L.length:=by rw[<-hlen];exact(Jc.1 hj).1
 have hnk:(L.map (·.1)).Nodup:=by
  have:=h2.2.2;rw[h3'] at this;exact(Jv.1 this).imp fun h e=>h (by rw[e])
 have hLj:L[j]?=some (L[j].1,L[j].2):=Jg hjl
 have hkey:e.key=enc L[j].1:=by
  have:=congrArg (fun l=>l[j]?) h3';simp only[Jw,hj,hLj,JA,Jh.injEq] at this;exact this
 exact⟨L[j].1,L[j].2,hkey,Fc hnk (Ja.2 ⟨j,hLj⟩),h4 j e (enc L[j].1,L[j].2) hj (by simp[ag,hLj])⟩
theorem PI {κ:Type} [DecidableEq κ] {enc:κ->Value} (hinj:∀a b,enc a = enc b->a = b) {c:bN} {o:Oper} {K:St->pH->Prop} {g:MapsD} {it:Operand} {r b:Nat} {L:List (κ × DV)} {lk:List κ} {cur:Option Value} (hop:o.op = .next it false) (hf:S.fits o.dst = true) (hit:Qn true (S.ev it) = .pv (.lit (.pointer (some ⟨r,0,none⟩)))) (hL:(b,ag enc L) ∈ g) (hDone:lk = []->K (S.put o.dst (aw o.guard true (.tup [.bool false]))) (g,[⟨r,b,lk.map enc,cur⟩])) (hMore:∀k d,k ∈ lk->aq L k = some d->K (S.put o.dst (aw o.guard true (.tup [.bool true,.any,.any]))) (g,[⟨r,b,(lk.filter fun x=>!decide (x = k)).map enc,some (enc k)⟩])):fp P (kU c) o K S (g,[⟨r,b,lk.map enc,cur⟩]):=fun O β a w hs=>by
 have hI:=hs.g.2 _ (Je.2 rfl);obtain⟨hlo,hne,es,clock,seen,h1,h2,h3,h4,h5,h6⟩:=hI;dsimp only at hlo hne h1 h3 h4 h5 h6;have hp:=Fb hs hit;obtain⟨hb0,hMA⟩:=hs.g.1.1.2 _ hL;rcases run_next_at (P:=P) w o.type r b clock clock seen es clock h3 h1 (fun x hx=>h2.1 x hx) (Jn _) with⟨hz,hrun⟩|⟨e,he,w1,hw1,hrun⟩
 ·have hlk:lk = []:=by
   refine List.eq_nil_iff_forall_not_mem.2 fun k hk=>?_;obtain⟨e,he,hek⟩:=h5 (enc k) (Jb.2 ⟨k,hk,rfl⟩);have hns:¬seen.contains e.born=true:=fun h=>(h4 e he).1 h (by rw[hek];exact Jb.2 ⟨k,hk,rfl⟩)
   have:e∈(leftOf es seen).toList:=by
    unfold leftOf;simp only[Jt,Jq];exact⟨he,by simpa using hns⟩
   have hz2:(leftOf es seen).toList.length=0:=by simpa using hz
   rw[List.length_eq_zero_iff.1 hz2] at this;cases this
  refine⟨.tuple #[.bool false],w,.inl ?_,β,_,(g,[⟨r,b,lk.map enc,cur⟩]),hs.put ⟨Jn _,fun _ _ _ _ h=>h⟩ hs.evo hf (QU (.tup _ _ rfl fun i d hd=>?_)) hs.g,hDone hlk⟩
  ·simp only [execOp,hop,hp];simp[hrun,Result.andThen]
  ·rcases i with _|i<;>simp at hd
   subst hd;exact .pv _ _ (.lit _ rfl)
 ·have he2:e ∈ es.toList/\¬seen.contains e.born = true:=by
   unfold leftOf at he;simp only[Jt,Jq] at he;exact⟨he.1,by simpa using he.2⟩
  obtain⟨k,d,hk1,hk2,hk3⟩:=hMA.entry h1 he2.1
  have hkl:k∈lk:=by
   have:e.key∈lk.map enc:=by
    refine Classical.byContradiction fun hc=>he2.2 ((h4 e he2.1).2 hc)
   obtain⟨k',hk',e3⟩:=Jb.1 this;rw[hk1] at e3;rw[<-hinj _ _ e3];exact hk'
  have gw:w.grownBy w1 none:=by
   rcases hw1 with rfl|rfl
   ·exact⟨rfl,rfl,rfl,Jn _,fun _ _ _=>rfl⟩
   ·exact⟨rfl,rfl,rfl,Jn _,fun _ _ _=>rfl⟩
  have hw1h:w1.heap=w.heap:=by rcases hw1 with rfl|rfl<;>rfl
  have hr1:w1.heap[r]?=some (.mapIter (some b) clock seen clock):=by rw[hw1h];exact h3
  obtain⟨s1,s2⟩:=Go.MapKept.heap_set (w:=w1) (o':=.mapIter (some b) clock (seen.push e.born) clock) hr1
  have hgr:w.grownBy (setBlock w1 r (.mapIter (some b) clock (seen.push e.born) clock)) (some r):=
   ⟨gw.os,gw.tape,gw.output,by simp[setBlock,hw1h],fun i hi hne=>(s2 i (fun e=>hne (by rw[e]))).trans (by rw[hw1h])⟩
  have hr:∀x,some r=some x->O.w.heap.size<=x/\∃o:Obj,w.heap[x]?=some o/\o.isCells=false:=fun x e=>by cases e;exact⟨hlo,_,h3,rfl⟩
  have hu:Up w (setBlock w1 r (.mapIter (some b) clock (seen.push e.born) clock)):=Up.grown hgr fun x e=>(hr x e).2
  have hng:∀p∈g,p.1≠r:=fun p hp e=>by
   obtain⟨es',clock',q,_⟩:=(hs.g.1.1.2 p hp).2.at_;rw[e,h3] at q;cases q
  refine⟨.tuple #[.bool true,e.key,e.val],_,.inl ?_,β,_,(g,[⟨r,b,(lk.filter fun x=>!decide (x=k)).map enc,some (enc k)⟩]),hs.put hu (hs.evo.grown hgr hr) hf (QU (.tup _ _ rfl fun i d hd=>?_)) ⟨hs.g.1.up hu hgr hng,fun i hi=>?_⟩,hMore k d hkl hk2⟩
  ·simp only [execOp,hop,hp];simp[hrun,Result.andThen]
  ·rcases i with _|_|_|i<;>simp at hd<;>subst hd
   ·exact .pv _ _ (.lit _ rfl)
   ·exact .any _
   ·exact .any _
  ·obtain rfl:=Je.1 hi;refine⟨hlo,hne,es,clock,seen.push e.born,(s2 b (Ne.symm hne)).trans (by rw[hw1h];exact h1),h2,s1,fun e' he'=>?_,fun k' hk'=>?_,fun k' hk'=>?_⟩
   ·obtain ⟨k',d',q1,_,_⟩:=hMA.entry h1 he'
    have hbk:e'.born=e.born ↔ k'=k:=by
     constructor
     ·intro hb
      have:e'=e:=by
       obtain⟨i1,j1⟩:=Ja.1 he';obtain⟨i2,j2⟩:=Ja.1 he2.1;have:=h2.2.1
       have hij:i1=i2:=by
        obtain⟨l1,m1⟩:=Jc.1 j1;obtain⟨l2,m2⟩:=Jc.1 j2;exact(Jp (h₀:=by simpa using l1) (h₁:=by simpa using l2) this).1 (by simp only[Jo];rw[m1,m2,hb])
       subst hij;rw[j1] at j2;exact Jh.inj j2
      rw[this,hk1] at q1;exact(hinj _ _ q1).symm
     ·rintro rfl
      have:e'=e:=by
       obtain⟨i1,j1⟩:=Ja.1 he';obtain⟨i2,j2⟩:=Ja.1 he2.1;have:=h2.2.2
       have hij:i1=i2:=by
        obtain⟨l1,m1⟩:=Jc.1 j1;obtain⟨l2,m2⟩:=Jc.1 j2;exact(Jp (h₀:=by simpa using l1) (h₁:=by simpa using l2) this).1 (by simp only[Jo];rw[m1,m2,q1,hk1])
       subst hij;rw[j1] at j2;exact Jh.inj j2
      rw[this]
    have h4':=h4 e' he';rw[q1] at h4' |-;have m1:enc k'∈lk.map enc ↔ k'∈lk:=⟨fun h=>by obtain⟨y,hy,e3⟩:=Jb.1 h;rw[<-hinj _ _ e3];exact hy,fun h=>Jb.2 ⟨_,h,rfl⟩⟩
    have m2:enc k'∈(lk.filter fun x=>!decide (x=k)).map enc ↔ k'∈lk/\k'≠k:=by
     constructor
     ·intro h;obtain⟨y,hy,e3⟩:=Jb.1 h;rw[<-hinj _ _ e3];simpa using hy
     ·intro h;exact Jb.2 ⟨k',by simpa using h,rfl⟩
    dsimp only;rw[m2];rw[m1] at h4'
    have hcp:(seen.push e.born).contains e'.born=true ↔ (seen.contains e'.born=true\/e'.born=e.born):=by
     simp
    rw[hcp,h4',hbk];by_cases hkk:k'=k<;>simp[hkk]
   ·obtain ⟨y,hy,rfl⟩:=Jb.1 hk';have hy':y∈lk:=(Jq.1 hy).1;exact h5 _ (Jb.2 ⟨y,hy',rfl⟩)
   ·dsimp only at hk';cases hk';exact⟨e,seen,he2.1,hk1,rfl⟩
theorem PJ{κ:Type}[DecidableEq κ]{enc:κ->Value}{kD:κ->DV}(hinj:∀a b,enc a=enc b->a=b)(hkD:∀(w:World) (β:Map) (hp:Qb) (k:κ),RelD w β hp (kD k) (enc k)){c:bN}{o:Oper}{K:St->pH->Prop}{g:MapsD}{it:Operand}{r b:Nat}{L:List (κ×DV)}{lk:List Value}{k:κ}{d:DV}(hop:o.op=.entry it)(hf:S.fits o.dst=true)(hit:Qn true (S.ev it)=.pv (.lit (.pointer (some ⟨r,0,none⟩))))(hL:(b,ag enc L)∈g)(hd:aq L k=some d)(hK:K (S.put o.dst (aw o.guard true (.tup [kD k,d]))) (g,[⟨r,b,lk,some (enc k)⟩])):fp P (kU c) o K S (g,[⟨r,b,lk,some (enc k)⟩]):=fun O β a w hs=>by
 have hI:=hs.g.2 _ (Je.2 rfl);obtain⟨hlo,hne,es,clock,seen,h1,h2,h3,h4,h5,h6⟩:=hI;dsimp only at hlo hne h1 h3 h4 h5 h6;have hp:=Fb hs hit;obtain⟨hb0,hMA⟩:=hs.g.1.1.2 _ hL;obtain⟨e,s0,he,hek,rfl⟩:=h6 _ rfl;have hrun:=run_entry_at (P:=P) w r b clock s0 es clock e h3 h1 he h2.2.1;obtain⟨k',d',q1,q2,q3⟩:=hMA.entry h1 he;rw[hek] at q1;obtain rfl:=hinj _ _ q1;rw[hd] at q2;obtain rfl:=Jh.inj q2;refine⟨.tuple #[e.key,e.val],w,.inl ?_,β,_,_,hs.put ⟨Jn _,fun _ _ _ _ h=>h⟩ hs.evo hf (QU (.tup _ _ rfl fun i x hx=>?_)) hs.g,hK⟩
 ·simp only [execOp,hop,hp];simp[hrun,Result.andThen]
 ·rcases i with _|_|i<;>simp at hx<;>subst hx
  ·show RelD _ _ _ _ e.key
   rw[hek];exact hkD _ _ _ _
  ·exact q3
theorem PK{κ:Type}[DecidableEq κ]{enc:κ->Value}{c:bN}{o:Oper}{K:St->pH->Prop}{g:MapsD}{m x:Operand}{cl:Call}{r b:Nat}{L:List (κ×DV)}{lk:List κ}{cur:Option Value}{k:κ}(hop:o.op=.call cl)(hcal:cl.callee=.builtin .delete)(hca:cl.args=#[m,x])(hct:cl.argTypes=#[t,kt])(hf:S.fits o.dst=true)(ht:P.underlying t=some (.map kt et))(hk:KeyT P kt enc)(hm:Qn true (S.ev m)=.pv (.lit (.map (some b))))(hL:(b,ag enc L)∈g)(hx:∀(w:World) (β:Map) (hp:Qb) (v:Value),RelD w β hp (Qn true (S.ev x)) v->v=enc k)(hkl:k ∉ lk)(hK:K (S.put o.dst (aw o.guard true (.tup []))) (g.map fun p=>if p.1=b then (b,ag enc (eC L k)) else p,[⟨r,b,lk.map enc,none⟩])):fp P (kU c) o K S (g,[⟨r,b,lk.map enc,cur⟩]):=fun O β a w hs=>by
 have hI:=hs.g.2 _ (Je.2 rfl);obtain⟨hlo,hne,es,clock,seen,h1,h2,h3,h4,h5,h6⟩:=hI;dsimp only at hlo hne h1 h3 h4 h5 h6;obtain⟨q1,q2⟩:=hs.g.1.1.2 _ hL;have em:=fM hs m;rw[hm] at em;have ex:=hx _ _ _ _ (fM hs x);obtain⟨es0,es',clock0,r0,r1,r2,r3,r4,r5⟩:=Z4 (ty:=o.type) ht hk q2 k;rw[h1] at r0;cases r0;obtain⟨u1,u2,u3⟩:=EZ (L':=ag enc (eC L k)) hs.g.1 hL r2 r3 r4;obtain⟨s1,s2⟩:=Go.MapKept.heap_set (o':=.map es' clock) h1;refine⟨.tuple #[],_,.inl ?_,β,_,_,hs.put u1 (u2 hs.evo rfl) hf (QU (.tup [] #[] rfl vv)) ⟨u3,fun i hi=>?_⟩,hK⟩
 ·have e1:a.eval m = .map (some b):=Qk em;simp[execOp,hop,resolve,hcal,hca,hct,invoke,builtin,e1,ex,r1,Result.andThen]
 ·obtain rfl:=Je.1 hi;refine⟨hlo,hne,es',clock,seen,s1,r2,(s2 r hne).trans h3,fun e he=>?_,fun k' hk'=>?_,fun k' hk'=>by cases hk'⟩
  ·exact h4 e ((r5 e).1 he).1
  ·obtain ⟨e,he,hek⟩:=h5 k' hk';refine⟨e,(r5 e).2 ⟨he,fun e2=>?_⟩,hek⟩;obtain⟨y,hy,rfl⟩:=Jb.1 hk';rw[hek] at e2;exact hkl (by rw[<-hk.inj _ _ e2];exact hy)
end Go.V
namespace Go.V
open Go
def dd(hf:P.funcs[g]?=some fn)(hc:QH P c (eG P rs.toList h.length R) ⟨y7,h.length,bj 0 args,h⟩)(hm:fn=⟨y1,y2,y3,y4,y5,y6,y7,rs,some c,y8,y9,z1,z2,z3,z4,z5⟩:=by exact rfl)(hname:(fn.name == "runtime.NumGoroutine")=false:=by kernel_rfl)(hn:args.length<=fn.ntmps:=by exact Nat.le_of_ble_eq_true rfl):VCalls P g args h R:=by subst hm; exact DW hf rfl hname hn hc
def dD(hf:P.funcs[g]?=some fn)(hc:QH P c (eG P fn.results.toList h.length R) ⟨fn.ntmps,h.length,bj 0 args,h⟩)(hb:fn.body=some c:=by exact rfl)(hname:(fn.name == "runtime.NumGoroutine")=false:=by kernel_rfl)(hn:args.length<=fn.ntmps:=by exact Nat.le_of_ble_eq_true rfl):VCalls P g args h R:=DW hf hb hname hn hc
def dk(hf:P.funcs[g]?=some fn)(hc:QH P c (lY P rs.toList h.length R) ⟨y7,h.length,bj 0 args,h⟩)(hm:fn=⟨y1,y2,y3,y4,y5,y6,y7,rs,some c,y8,y9,z1,z2,z3,z4,z5⟩:=by exact rfl)(hname:(fn.name == "runtime.NumGoroutine")=false:=by kernel_rfl)(hn:args.length<=fn.ntmps:=by exact Nat.le_of_ble_eq_true rfl):VCalls P g args h R:=by subst hm; exact ER hf rfl hname hn hc
def dK(hf:P.funcs[g]?=some fn)(hc:QH P c (lY P fn.results.toList h.length R) ⟨fn.ntmps,h.length,bj 0 args,h⟩)(hb:fn.body=some c:=by exact rfl)(hname:(fn.name == "runtime.NumGoroutine")=false:=by kernel_rfl)(hn:args.length<=fn.ntmps:=by exact Nat.le_of_ble_eq_true rfl):VCalls P g args h R:=ER hf hb hname hn hc
end Go.V
