/-
  Contracts of functions and plain laws. No condition.
-/
import Derived.Test.YtepdccfgnafgcaaGreatV3
set_option linter.unusedSimpArgs false
set_option linter.unusedVariables false
set_option linter.defProp false
set_option maxRecDepth 100000
set_option maxHeartbeats 8000000
set_option autoImplicit true
set_option relaxedAutoImplicit true
open Array renaming getElem?_eq_some_iff->Ja,getD_eq_getD_getElem?->Jb,eq_empty_of_size_eq_zero->Jc,getElem?_append_left->Jd,replicate->Jg
open List renaming getElem?_eq_some_iff->Je,range_eq_range'->Jf,range'->Jh,getElem?_append_left->Ji,sizeOf_lt_of_mem->Jk,range_succ->Jl,mem_of_getElem?->Jn,append_assoc->Jo,length_cons->Jq,map_toArray->Jr,length->Js,range->Jt,map_cons->Ju,map_nil->Jv
open Nat renaming le_refl->Jj,le_of_ble_eq_true->Jm,le_trans->Jp
namespace Go.V
open Go.RowKit (Below)
def Wk(S S':St):Prop:=∀ (O:Org) (β:Map) (a:Act) (w:World),Sim O β S a w->∃ β',Sim O β' S' a w
def Wk.refl(S:St):Wk S S:=fun _ β _ _ h=>⟨β,h⟩
def Wk.weak(h:Qro S S'):Wk S S':=fun _ _ _ _ hs=>hs.weak h
def Wk.trans(h:Wk S S')(h':Wk S' S''):Wk S S'':=fun O β a w hs=>let ⟨_,h1⟩:=h O β a w hs; h' O _ a w h1
def Wk.wkS(S:St):Wk S ⟨S.nt,S.base,Qna S.tm,QfT S.hp⟩:=fun _ β _ _ h=>⟨β,Qlp h⟩
def Wk.nilOwnC (k j:Nat) (T:TypeId) (sz:Nat) (hk:S.hp[k]? = some B) (hd:B.cells[j]? = some (.pv (.slc []))):
 Wk S ⟨S.nt,S.base,S.tm,(S.hp++[(⟨T,true,[]⟩:Blk)]).set k ⟨B.ty,B.live,B.cells.set j (.own S.hp.length sz 0 0)⟩⟩:=fun O β a w hs=>by
 have e:Evo w β S.hp w (ext β S.hp.length none) (S.hp++[(⟨T,true,[]⟩:Blk)]):=by
  refine⟨rfl,rfl,rfl,Jj _,by simp,fun j hj=>QaO hj,fun _ _ _=>rfl,fun _ C _ m h=>⟨C,m,h,rfl⟩,fun b _ hb=>?_,rfl⟩
  obtain⟨j,D,g1,g2,g3⟩:=hb
  rcases Nat.lt_trichotomy j S.hp.length with hlt | heq | hgt
  ·rw[Ji hlt] at g1; rw[QaO hlt] at g3; exact⟨j,D,g1,g2,g3⟩
  ·subst heq; simp[ext] at g3
  ·rw[List.getElem?_append_right (by omega),List.getElem?_eq_none (by simp; omega)] at g1; simp at g1
 have h2:Sim O (ext β S.hp.length none) ⟨S.nt,S.base,S.tm,S.hp++[⟨T,true,[]⟩]⟩ a w:=
  ⟨hs.defers,hs.size,fun u=>(hs.tm u).mono e,Qdd hs.heap rfl e (by simp) (fun _=>rfl) (fun _ _=>rfl),hs.evo.trans e,hs.base⟩
 have hlt:k<S.hp.length:=(Je.1 hk).1
 refine⟨_,Qox h2 (k:=k) (j:=j) (B:=B) (d:=.pv (.slc [])) (d':=.own S.hp.length sz 0 0) (by show(S.hp++_)[k]?=_; rw[Ji hlt]; exact hk) hd rfl ?_⟩
 intro v hv
 cases hv with
 | pv _ _ hp0=>cases hp0 with
   | slc _ ad sz2 val g1 g2 g3 g4 g5=>exact .own0 _ _ ad (by simp) (by simp[ext]) trivial
def QD3{nt base:Nat}(k j:Nat)(T:TypeId)(sz:Nat)(hk:hp[k]?=some B)(hd:B.cells[j]?=some (.pv (.slc [])))(he:hp'=(hp++[(⟨T,true,[]⟩:Blk)]).set k ⟨B.ty,B.live,B.cells.set j (.own hp.length sz 0 0)⟩):
 Wk ⟨nt,base,[],hp⟩ ⟨nt,base,[],hp'⟩:=by rw[he]; exact Wk.nilOwnC (S:=⟨nt,base,[],hp⟩) k j T sz hk hd
def QF2 (P:Program) (gf:Nat) (caps:List DV) (n:Nat) (enc:Nat->Array Value):Prop :=
 ∀ (vs:Array Value) (l:Nat) (J:Nat->World->Prop) (Jx:World->Prop) (W:World),
   (∀ k X Y,J k X->X.grownBy Y none->J k Y)->(∀ X Y,Jx X->X.grownBy Y none->Jx Y)->(∀ k X,J k X->RelL X Qd6 [] caps vs) ->
   (∀ k,k < n->∀ X Y,J k X->X.grownBy Y none->YieldAt Fence.wide 8 P l (enc k) Y fun e Z=>
    (e=.returned (.bool true)/\J (k+1) Z/\∀ (b:Nat) (o:Obj),X.heap.size<=b->Y.heap[b]?=some o->Z.heap[b]?=some o)\/(e=.returned (.bool false)/\Jx Z)) ->
   J 0 W->CallsIn Fence.wide 9 P gf (#[.func (.yield l) #[] #[]]++vs) W fun e Z=>(∃ v,e=.returned v)/\(J n Z\/Jx Z)
def QjJ(P:Program)(assign:Code)(B:(Exit->St->Prop)->St->Prop)(Kn:St->Prop)(Kr:Qa->Prop)(S0:St):Prop:=
 QC P assign (fun e S1=>e=.normal/\B (fun e S'=>match e with | .normal=>Kn S' | .ret=>Kr S'.hp | _=>False) { S1 with base:=S1.hp.length }) S0
def QBo (a:Act) (w:World) (β:Map) (hp:Qa) (n:Nat) (I:Nat->Qa) (G:Nat->Prop) (Rr:Nat->Qa->Prop) (e:Exit) (a':Act) (W:World):Prop :=
 ∃ D,w.heap.size<=D/\W.heap[D]? = some (.deferred (some []))/\a' = { a with defers:={ target:=.collected D,args:=#[] } :: a.defers } /\
   ((e = .normal/\G n/\∃ β1,HeapRel W β1 (I n)/\Evo w β hp W β1 (I n)) \/
    (e=.ret/\∃ k β1 hp',k<n/\HeapRel W β1 hp'/\Evo w β hp W β1 hp'/\Rr k hp'))
structure SeqJ(w:World)(β:Map)(hp:Qa)(hk:Qa)(rec:Loop)(W:World):Prop where
 rel:∃ β1,HeapRel W β1 hk/\Evo w β hp W β1 hk
 own:W.heap[w.heap.size+1]?=some (.loop rec)
 dfr:W.heap[w.heap.size]?=some (.deferred (some []))
def SeqJ.grown{hp hk:Qa}{rec:Loop}(h:SeqJ w β hp hk rec X)(hg:X.grownBy Y none):SeqJ w β hp hk rec Y:=by
 obtain⟨⟨β1,h1,h2⟩,h3,h4⟩:=h
 refine⟨⟨β1,h1.up (Up.grown hg fun r e=>by cases e),h2.grown hg fun r e=>by cases e⟩,?_,?_⟩
 ·rw[hg.block _ (Ja.1 h3).1 (by simp)]; exact h3
 ·rw[hg.block _ (Ja.1 h4).1 (by simp)]; exact h4
def SeqJ.turn{hp hk:Qa}{rec:Loop}(h:SeqJ w β hp hk rec X)(rec':Loop):SeqJ w β hp hk rec' (X.putObj (w.heap.size+1) (.loop rec')):=by
 obtain⟨⟨β1,h1,h2⟩,h3,h4⟩:=h
 have hg:=grownBy_putObj' X (w.heap.size+1) (.loop rec')
 have hr:∀ r,some (w.heap.size+1)=some r->w.heap.size<=r/\∃ o:Obj,X.heap[r]?=some o/\o.isCells=false:=fun r e=>by cases e; exact⟨by omega,_,h3,rfl⟩
 exact⟨⟨β1,h1.up (Up.grown hg fun r e=>(hr r e).2),h2.grown hg hr⟩,World.putObj_heap_same (Ja.1 h3).1,(World.putObj_heap_other (by omega)).trans h4⟩
def QH4(hs:Sim O β S a w)(hgS:S.ev g=.fn (.func gf) [] capsD)(hf1:P.funcs[gf]?=some fn)(hf2:(fn.name == "runtime.NumGoroutine")=false)(hf3:fn.body.isNone=false)(hV:QF2 P gf caps n enc)(h0:p0<S.nt)(h1:p1<S.nt)(d0 d1:Nat->DV)(v0 v1:Nat->Value)(henc:∀ k,k<n->enc k=#[v0 k,v1 k])(hd0:∀ k W β1 hp1,k<n->RelD W β1 hp1 (d0 k) (v0 k))(hd1:∀ k W β1 hp1,k<n->RelD W β1 hp1 (d1 k) (v1 k))(I:Nat->Qa)(hI0:Wk ⟨S.nt,S.hp.length,[],S.hp⟩ ⟨S.nt,S.hp.length,[],I 0⟩)(G:Nat->Prop)(hG0:G 0)(hcap:∀ k W β1 us,HeapRel W β1 (I k)->RelL W β1 (I k) capsD us->RelL W Qd6 [] caps us)(Rr:Nat->Qa->Prop)(hpa:QaL assign=true)(hB:BodyOf P body B)(hbody:∀ k,k<n->G k->QjJ P assign B (fun S'=>G (k+1)/\Wk ⟨S.nt,S.hp.length,[],S'.hp⟩ ⟨S.nt,S.hp.length,[],I (k+1)⟩) (Rr k) ⟨S.nt,(I k).length,(p1,d1 k)::(p0,d0 k)::S.tm,I k⟩):
 (Code.rangeFunc g #[p0,p1] assign body).wp P (QBo a w β S.hp n I G Rr) a w:=by
 have hgv:=hs.ev g
 rw[hgS] at hgv
 generalize hv:a.eval g=gv at hgv
 cases hgv with
 | fn _ _ _ vs us l1 l2 r1 r2=>
 have hvs:vs=#[]:=Jc l1.symm
 subst hvs
 have hsz:=hs.size
 have hus:RelL w β S.hp capsD us:=⟨l2,r2⟩
 -- what is laid at the start
 obtain⟨W1,hW1⟩:∃ W1,W1=(w.alloc (.deferred (some []))):=⟨_,rfl⟩
 rw[<- wpIn_wide (n:=10)]
 refine wpIn_rangeFunc ?_
 intro fc hfc
 let rec0:LoopState->Option Code->Loop:=fun st pe=>{ state:=st,pending:=pe,fn:=fc,tmps:=a.tmps,params:=#[p0,p1],assign,body,defers:=w.heap.size }
 let W0:World:=(w.alloc (.deferred (some []))).alloc (.loop (rec0 .ready none))
 have g1:w.grownBy (w.alloc (.deferred (some []))) none:=World.grownBy_alloc w _ none
 have g2:(w.alloc (.deferred (some []))).grownBy W0 none:=World.grownBy_alloc _ _ none
 have hO:Sim ⟨w,β,S.hp,a.defers⟩ β ⟨S.nt,S.hp.length,[],S.hp⟩ a w:=⟨rfl,hs.size,fun _=>.any _,hs.heap,Evo.refl _ _ _,rfl⟩
 obtain⟨β0,hI⟩:=hI0 _ _ _ _ hO
 have nn:∀ (X:World) (r:Nat),none=some r->w.heap.size<=r/\∃ o:Obj,X.heap[r]?=some o/\o.isCells=false:=fun X r e=>by cases e
 have hJ0:SeqJ w β S.hp (I 0) (rec0 .ready none) W0:=by
  refine⟨⟨β0,(hI.heap.up (Up.grown g1 fun r e=>(nn w r e).2)).up (Up.grown g2 fun r e=>(nn (w.alloc (.deferred (some []))) r e).2),(hI.evo.grown g1 (nn w)).grown g2 (nn _)⟩,?_,?_⟩
  ·have:=World.alloc_heap_new (w.alloc (.deferred (some []))) (.loop (rec0 .ready none)); rwa [World.size_alloc] at this
  ·exact(Below.heap_alloc _ _ _ (by simp)).trans (World.alloc_heap_new w _)
 refine⟨w.heap.size+1,[{ target:=.collected w.heap.size,args:=#[] }],W0,{ target:=.fn (.func gf) us,args:=#[.func (.yield (w.heap.size+1)) #[] #[]] },W0,gf,#[.func (.yield (w.heap.size+1)) #[] #[]]++us,W0,run_enterLoop_outer _ _ _ _ _,?_,fun _ _=>trivial,?_,fun _=>by decide,?_⟩
 ·simp only [resolve,hv]
  simp[go_sem]
 ·simp[invoke,go_sem,Qca hf1 hf2 hf3]
 refine(hV us (w.heap.size+1) (fun k W=>G k/\SeqJ w β S.hp (I k) (rec0 .ready none) W)
  (fun W=>∃ k hp',k<n/\Rr k hp'/\SeqJ w β S.hp hp' (rec0 .done (some .ret)) W) W0 (fun k X Y h hg=>⟨h.1,h.2.grown hg⟩) (fun X Y ⟨k,hp',h1,h2,h3⟩ hg=>⟨k,hp',h1,h2,h3.grown hg⟩) ?cap ?round ⟨hG0,hJ0⟩).mono ?_
 case cap=>
  rintro k X ⟨_,⟨β1,e1,e2⟩,_,_⟩
  exact hcap k X β1 us e1 ⟨hus.1,fun i d hd=>(hus.2 i d hd).mono e2⟩
 case round=>
  rintro k hk X Y hJX hXY
  obtain⟨hGk,⟨βX,hhX,evX⟩,hlX,hdX⟩:=hJX
  have hY:SeqJ w β S.hp (I k) (rec0 .ready none) Y:=SeqJ.grown ⟨⟨βX,hhX,evX⟩,hlX,hdX⟩ hXY
  have uXY:Up X Y:=Up.grown hXY fun r e=>by cases e
  have hhY:HeapRel Y βX (I k):=hhX.up uXY
  have evY:Evo w β S.hp Y βX (I k):=evX.grown hXY fun r e=>by cases e
  -- no block of the caller's is of after X
  have old:∀ b,V.live βX (I k) b->b<X.heap.size:=by
   rintro b ⟨j,D,q1,q2,q3⟩
   obtain⟨C,c1,_⟩:=hhX.blk j D b q1 q2 q3
   exact(Ja.1 c1).1
  have hsX:w.heap.size+1<X.heap.size:=(Ja.1 hlX).1
  have hy:=run_yield (P:=P) (args:=enc k) hY.own (by rw[henc k hk]; rfl)
  refine⟨fc,_,assign,body,hy,roundIn_of_wpIn (n:=8) hfc ?_⟩
  have e1:((rec0 .ready none).params.zip (enc k)).foldl (fun(t:Array Value) (x:Tmp×Value)=>t.setIfInBounds x.1 x.2) (rec0 .ready none).tmps=(a.tmps.setIfInBounds p0 (v0 k)).setIfInBounds p1 (v1 k):=by rw[henc k hk]; simp[rec0]
  rw[e1]
  have hsim:Sim ⟨Y,βX,I k,[]⟩ βX ⟨S.nt,(I k).length,(p1,d1 k)::(p0,d0 k)::S.tm,I k⟩ { tmps:=(a.tmps.setIfInBounds p0 (v0 k)).setIfInBounds p1 (v1 k),defers:=[] } Y:=by
   refine⟨rfl,by simpa using hsz,fun t=>?_,hhY,Evo.refl _ _ _,rfl⟩
   dsimp only
   rw[QcP (by simpa [hsz] using h1),QcP (by simpa [hsz] using h0)]
   simp only[look]
   split
   ·exact hd1 k _ _ _ hk
   split
   ·exact hd0 k _ _ _ hk
   ·exact(hs.tm t).mono evY
  refine wpIn_mono (Q8 (rd:=some (w.heap.size+1)) (n:=8) assign _ _ hpa (hbody k hk hGk) _ _ _ _ hsim) ?_
  rintro e a1 Wa ⟨β2,S1,hs1,rfl,hc⟩
  -- the record is busy
  have keep1:∀ (b:Nat) (o:Obj),Y.heap[b]?=some o->(o.isCells=false\/X.heap.size<=b)->Wa.heap[b]?=some o:=by
   intro b o hb ho
   rw[hs1.evo.same b (Ja.1 hb).1 ?_]
   ·exact hb
   intro hl
   rcases ho with ho | ho
   ·obtain ⟨j,D,q1,q2,q3⟩:=hl
    obtain⟨C,c1,_⟩:=hhY.blk j D b q1 q2 q3
    rw[hb] at c1; cases c1; cases ho
   ·have:=old b hl; omega
  have hla:=keep1 _ _ hY.own (.inl rfl)
  have hda:=keep1 _ _ hY.dfr (.inl rfl)
  refine⟨_,run_beginRound hla rfl,?_⟩
  have hJa:SeqJ w β S.hp S1.hp (rec0 .ready none) Wa:=⟨⟨β2,hs1.heap,evY.trans hs1.evo⟩,hla,hda⟩
  have hga:=grownBy_putObj' Wa (w.heap.size+1) (.loop { rec0 .ready none with state:=.busy })
  have hra:∀ r,some (w.heap.size+1)=some r->w.heap.size<=r/\∃ o:Obj,Wa.heap[r]?=some o/\o.isCells=false:=fun r e=>by cases e; exact⟨by omega,_,hla,rfl⟩
  have hJb:=hJa.turn { rec0 .ready none with state:=.busy }
  generalize hWb:Wa.putObj (w.heap.size+1) (.loop { rec0 .ready none with state:=.busy })=Wb at hga hJb |-
  have uab:Up Wa Wb:=Up.grown hga fun r e=>(hra r e).2
  have hsimb:Sim ⟨Wb,β2,S1.hp,[]⟩ β2 { S1 with base:=S1.hp.length } a1 Wb:=⟨hs1.defers,hs1.size,fun t=>(hs1.tm t).up uab,hs1.heap.up uab,Evo.refl _ _ _,rfl⟩
  refine wpIn_mono (hB (some (w.heap.size+1)) 8 _ _ hc _ _ _ _ hsimb) ?_
  rintro e a2 Wc ⟨β3,S2,hs2,hq⟩
  have evc:Evo w β S.hp Wc β3 S2.hp:=((evY.trans hs1.evo).grown hga hra).trans hs2.evo
  have keep2:∀ (b:Nat) (o:Obj),Wb.heap[b]?=some o->(o.isCells=false\/(X.heap.size<=b/\b<Y.heap.size))->Wc.heap[b]?=some o:=by
   intro b o hb ho
   rw[hs2.evo.same b (Ja.1 hb).1 ?_]
   ·exact hb
   intro hl
   rcases ho with ho | ⟨ho,ho2⟩
   ·obtain ⟨j,D,q1,q2,q3⟩:=hl
    obtain⟨C,c1,_⟩:=hsimb.heap.blk j D b q1 q2 q3
    rw[hb] at c1; cases c1; cases ho
   ·have:=old b (hs1.evo.im b ho2 hl); omega
  have hlc:=keep2 _ _ hJb.own (.inl rfl)
  have hdc:=keep2 _ _ hJb.dfr (.inl rfl)
  -- how it ends
  cases e with
  | normal =>
    have hSc:Sim ⟨w,β,S.hp,[]⟩ β3 ⟨S.nt,S.hp.length,[],S2.hp⟩ { tmps:=a.tmps,defers:=[] } Wc:=⟨rfl,hsz,fun t=>.any _,hs2.heap,evc,rfl⟩
    obtain⟨β4,hS4⟩:=hq.2 _ _ _ _ hSc
    have hJc:SeqJ w β S.hp (I (k+1)) { rec0 .ready none with state:=.busy } Wc:=⟨⟨β4,hS4.heap,hS4.evo⟩,hlc,hdc⟩
    refine⟨_,_,run_endRound none hlc,.inl ⟨rfl,⟨hq.1,hJc.turn _⟩,fun b o hb hYb=>?_⟩⟩
    have hlt:b<Y.heap.size:=(Ja.1 hYb).1
    have q1:=keep1 b o hYb (.inr hb)
    have q2:Wb.heap[b]?=some o:=by rw[<- hWb]; exact(World.putObj_heap_other (by omega)).trans q1
    exact(World.putObj_heap_other (by omega)).trans (keep2 b o q2 (.inr ⟨hb,hlt⟩))
  | ret =>
    have hJc:SeqJ w β S.hp S2.hp { rec0 .ready none with state:=.busy } Wc:=⟨⟨β3,hs2.heap,evc⟩,hlc,hdc⟩
    exact⟨_,_,run_endRound (some .ret) hlc,.inr ⟨rfl,k,S2.hp,hk,hq,hJc.turn _⟩⟩
  | _=>exact hq.elim
 -- QW the iterator
 rintro e W2 ⟨⟨v,rfl⟩,⟨hGn,hJ⟩ | ⟨k,hp',hk,hR,hJ⟩⟩
 ·refine ⟨none,_,run_endLoop hJ.own (by simp [rec0]),w.heap.size,Jj _,?_,rfl,.inl ⟨rfl,hGn,?_⟩⟩
  ·exact(hJ.turn _).dfr
  ·exact(hJ.turn _).rel
 ·refine ⟨some .ret,_,run_endLoop hJ.own (by simp [rec0]),wpIn_ret ⟨w.heap.size,Jj _,?_,rfl,.inr ⟨rfl,?_⟩⟩⟩
  ·exact(hJ.turn _).dfr
  ·obtain ⟨β1,q1,q2⟩:=(hJ.turn { rec0 .done (some .ret) with state:=.exhausted }).rel
   exact⟨k,β1,hp',hk,q1,q2,hR⟩
def VWp0.seqK(hgS:S.ev g=.fn (.func gf) [] capsD)(hf1:P.funcs[gf]?=some fn)(hf2:(fn.name == "runtime.NumGoroutine")=false)(hf3:fn.body.isNone=false)(hV:QF2 P gf caps n enc)(h0:p0<S.nt)(h1:p1<S.nt)(d0 d1:Nat->DV)(v0 v1:Nat->Value)(henc:∀ k,k<n->enc k=#[v0 k,v1 k])(hd0:∀ k W β1 hp1,k<n->RelD W β1 hp1 (d0 k) (v0 k))(hd1:∀ k W β1 hp1,k<n->RelD W β1 hp1 (d1 k) (v1 k))(I:Nat->Qa)(hI0:Wk ⟨S.nt,S.hp.length,[],S.hp⟩ ⟨S.nt,S.hp.length,[],I 0⟩)(G:Nat->Prop)(hG0:G 0)(hcap:∀ k W β1 us,HeapRel W β1 (I k)->RelL W β1 (I k) capsD us->RelL W Qd6 [] caps us)(Rr:Nat->Qa->Prop)(hpa:QaL assign=true)(hB:BodyOf P body B)(hbody:∀ k,k<n->G k->QjJ P assign B (fun S'=>G (k+1)/\Wk ⟨S.nt,S.hp.length,[],S'.hp⟩ ⟨S.nt,S.hp.length,[],I (k+1)⟩) (Rr k) ⟨S.nt,(I k).length,(p1,d1 k)::(p0,d0 k)::S.tm,I k⟩)(hdone:G n->Q .normal { S with hp:=I n })(hret:∀ k hp',k<n->Rr k hp'->Q .ret { S with hp:=hp' }):
 VWp0 P (Code.rangeFunc g #[p0,p1] assign body) Q S:=fun O β a w hs hd=>by
 refine wp_mono (QH4 (hs.reb) hgS hf1 hf2 hf3 hV h0 h1 d0 d1 v0 v1 henc hd0 hd1 I hI0 G hG0 hcap Rr hpa hB hbody) ?_
 rintro e a' W ⟨D,hD,hK,rfl,⟨rfl,hGn,β1,hh,ev⟩ | ⟨rfl,k,β1,hp',hk,hh,ev,hR⟩⟩
 ·exact⟨β1,{ S with hp:=I n },⟨hs.size,fun t=>(hs.tm t).mono ev,hh,hs.evo.trans ev,.inr ⟨D,by rw[hd],hK,Jp hs.evo.size hD⟩⟩,hdone hGn⟩
 ·exact⟨β1,{ S with hp:=hp' },⟨hs.size,fun t=>(hs.tm t).mono ev,hh,hs.evo.trans ev,.inr ⟨D,by rw[hd],hK,Jp hs.evo.size hD⟩⟩,hret k hp' hk hR⟩
end Go.V
namespace Go.V
open Go.RowKit (Below)
mutual
def DV.fix:DV->Bool
 | .pv p=>p.fix
 | .agg ds=>DV.fixL ds
 | _=>false
def DV.fixL:List DV->Bool
 | []=>true
 | d::r=>d.fix&&DV.fixL r
end
mutual
def DV.val:DV->Value
 | .pv p=>p.val
 | .agg ds=>.agg (DV.valL ds).toArray
 | _=>undef
def DV.valL:List DV->List Value
 | []=>[]
 | d::r=>d.val::DV.valL r
end
def DV.valL_len:∀ (ds:List DV),(DV.valL ds).length=ds.length
 | []=>rfl
 | _::r=>by rw[DV.valL,Jq,Jq,DV.valL_len r]
def DV.valL_get:∀ {ds:List DV} {i:Nat} {d:DV},ds[i]?=some d->(DV.valL ds)[i]?=some d.val
 | x::r,0,d,h=>by simp at h; subst h; simp[DV.valL]
 | x::r,i+1,d,h=>by simp at h; rw[DV.valL]; simpa using DV.valL_get h
def DV.fixL_get:∀ {ds:List DV},DV.fixL ds=true->∀ {i:Nat} {d:DV},ds[i]?=some d->d.fix=true
 | x::r,h,0,d,h'=>by simp at h'; subst h'; simp[DV.fixL] at h; exact h.1
 | x::r,h,i+1,d,h'=>by simp at h'; simp[DV.fixL] at h; exact DV.fixL_get h.2 h'
def DV.fix_rel:∀ {d:DV},d.fix = true->RelD w β hp d d.val
 | .pv p,h=>.pv _ _ (PV.fix_rel h)
 | .agg ds,h=>.agg ds _ (by simp [DV.valL_len]) fun i d hd=>by
   have h1:=DV.valL_get hd
   have e:((DV.valL ds).toArray.getD i undef)=d.val:=by simp[Jb,h1]
   rw[e]
   exact DV.fix_rel (d:=d) (DV.fixL_get h hd)
 | .ptr _ _,h=>by simp[DV.fix] at h
 | .own _ _ _ _,h=>by simp[DV.fix] at h
 | .ownc _ _ _ _ _,h=>by simp[DV.fix] at h
 | .ip _,h=>by simp[DV.fix] at h
 | .fn _ _ _,h=>by simp[DV.fix] at h
 | .tup _,h=>by simp[DV.fix] at h
 | .opt _ _,h=>by simp[DV.fix] at h
 | .any,h=>by simp[DV.fix] at h
termination_by d=>SizeOf.sizeOf d
decreasing_by
 have:=Jk (Jn hd)
 simp only[DV.agg.sizeOf_spec]
 omega
def DV.fix_eq:∀ {d:DV} {v:Value},d.fix = true->RelD w β hp d v->v = d.val
 | .pv p,v,h,hr=>by cases hr with | pv _ _ hr=>exact PV.fix_eq h hr
 | .agg ds,v,h,hr=>by
   cases hr with
   | agg _ vs hl hv =>
     rw[DV.val]
     congr 1
     apply Array.ext
     ·simp[DV.valL_len,hl]
     ·intro j h1 h2
      have hj:j<ds.length:=by simpa [DV.valL_len] using h2
      have hd:ds[j]?=some ds[j]:=List.getElem?_eq_getElem hj
      have:=DV.fix_eq (d:=ds[j]) (DV.fixL_get h hd) (hv j ds[j] hd)
      simp only[Jb,Array.getElem?_eq_getElem h1,Option.getD_some] at this
      rw[this]
      have e2:=DV.valL_get hd
      have e3:(DV.valL ds)[j]'(by rw[DV.valL_len]; exact hj)=ds[j].val:=by
       have:=Je.1 e2
       exact this.2
      simpa using e3.symm
 | .ptr _ _,_,h,_=>by simp[DV.fix] at h
 | .own _ _ _ _,_,h,_=>by simp[DV.fix] at h
 | .ownc _ _ _ _ _,_,h,_=>by simp[DV.fix] at h
 | .ip _,_,h,_=>by simp[DV.fix] at h
 | .fn _ _ _,_,h,_=>by simp[DV.fix] at h
 | .tup _,_,h,_=>by simp[DV.fix] at h
 | .opt _ _,_,h,_=>by simp[DV.fix] at h
 | .any,_,h,_=>by simp[DV.fix] at h
termination_by d=>SizeOf.sizeOf d
decreasing_by
 have:=Jk (List.getElem_mem hj)
 simp only[DV.agg.sizeOf_spec]
 omega
structure BoxIn(W:World)(b:Nat)(cs:List PV)(v:Value):Prop where
 v:v=.pointer (some ⟨b,0,none⟩)
 lie:∃ (C:Row) (T:TypeId),W.heap[b]?=some (.cells C.v T C.m)/\cs.length<=C.v.size/\∀ (i:Nat) (p:PV),cs[i]?=some p->RelD W Qd6 [] (.pv p) (C.v.getD i undef)
def BoxIn.seen{b:Nat}{cs:List PV}{v:Value}(h:BoxIn W b cs v):RelD W Qd6 [] (.ip cs) v:=by
 obtain⟨rfl,C,T,h1,h2,h3⟩:=h
 have hlt:=(Ja.1 h1).1
 refine .ip cs ⟨b,0,none⟩ (fun j=>C.v.getD j undef) rfl (fun j d hj=>⟨hlt,QG8,?_⟩) (fun j d hj=>?_)
 ·have hj':j < cs.length:=(Je.1 hj).1
  have:=Q4 h1 (o:=j) (by omega)
  simpa [at_] using this
 ·have:=h3 j d hj
  cases this with | pv _ _ hr=>exact hr
def BoxIn.keep{b:Nat}{cs:List PV}{v:Value}(h:BoxIn W b cs v)(hc:cs.all PV.fix=true)(hb:∀ o:Obj,W.heap[b]?=some o->Z.heap[b]?=some o):BoxIn Z b cs v:=by
 obtain⟨rfl,C,T,h1,h2,h3⟩:=h
 refine⟨rfl,C,T,hb _ h1,h2,fun i p hi=>?_⟩
 have hp:p.fix=true:=List.all_eq_true.1 hc p (Jn hi)
 have:=h3 i p hi
 cases this with | pv _ _ hr=>rw[PV.fix_eq hp hr]; exact .pv _ _ (PV.fix_rel hp)
def QCf (ev:Evo X Qd6 [] W β hp) (hh:HeapRel W β hp) (hk:hp[k]? = some ⟨T,true,cs.map .pv⟩) (hv:RelD W β hp (.ptr k 0) v):∃ b,BoxIn W b cs v/\X.heap.size<=b:=by
 cases hv with
 | ptr _ _ b h1 h2 =>
   obtain⟨C,c1,c2,c3⟩:=hh.blk k _ b hk rfl h2
   refine⟨b,⟨rfl,C,T,c1,by simpa using c2,fun i p hi=>?_⟩,?_⟩
   ·have:=(c3 i (.pv p) (by simp [hi])).2
    cases this with | pv _ _ hr=>exact .pv _ _ (hr.mono (Jj _) (fun _ _ _=>rfl) (fun b _ hb=>absurd hb QG8))
   ·refine Nat.le_of_not_lt fun hlt=>?_
    obtain⟨j,B,q,_⟩:=ev.im b hlt ⟨k,_,hk,rfl,h2⟩
    simp at q
def QjW (hh:HeapRel W β hp) (hk:hp[k]? = some ⟨T,true,cs.map .pv⟩) (hv:RelD W β hp (.ptr k 0) v):RelD W Qd6 [] (.ip cs) v:=by
 cases hv with
 | ptr _ _ b h1 h2 =>
   obtain⟨C,c1,c2,c3⟩:=hh.blk k _ b hk rfl h2
   refine BoxIn.seen (b:=b) ⟨rfl,C,T,c1,by simpa using c2,fun i p hi=>?_⟩
   have:=(c3 i (.pv p) (by simp[hi])).2
   cases this with | pv _ _ hr=>exact .pv _ _ (hr.mono (Jj _) (fun _ _ _=>rfl) (fun b _ hb=>absurd hb QG8))
def Qnv (hh:HeapRel W β hp) (hk:hp[k]? = some ⟨T,true,[.fn (.func ff) [] []]⟩) (hv:RelD W β hp (.ptr k 0) v):RelD W Qd6 [] (.ip [.lit (.func (.func ff) #[] #[])]) v:=by
 cases hv with
 | ptr _ _ b h1 h2 =>
   obtain⟨C,c1,c2,c3⟩:=hh.blk k _ b hk rfl h2
   refine BoxIn.seen (b:=b) ⟨rfl,C,T,c1,by simpa using c2,fun i p hi=>?_⟩
   rcases i with _ | i
   ·simp at hi
    subst hi
    have:=(c3 0 _ rfl).2
    generalize C.v.getD 0 undef=u at *
    cases this with
    | fn _ _ _ vs us l1 l2 _ _ =>
      rw[Jc l1.symm,Jc l2.symm]
      exact .pv _ _ (.lit _ rfl)
   ·simp at hi
def QGX(h:RelL W β hp [p1,p2,p3,p4] us)(h1:∀ v,RelD W β hp p1 v->RelD W Qd6 [] c1 v)(h2:∀ v,RelD W β hp p2 v->RelD W Qd6 [] c2 v)(h3:∀ v,RelD W β hp p3 v->RelD W Qd6 [] c3 v)(h4:∀ v,RelD W β hp p4 v->RelD W Qd6 [] c4 v):RelL W Qd6 [] [c1,c2,c3,c4] us:=by
 refine⟨h.1,fun i d hd=>?_⟩
 rcases i with _ | _ | _ | _ | i<;>simp at hd<;>subst hd
 ·exact h1 _ (h.2 0 _ rfl)
 ·exact h2 _ (h.2 1 _ rfl)
 ·exact h3 _ (h.2 2 _ rfl)
 ·exact h4 _ (h.2 3 _ rfl)
def Sim.quiet(hs:Sim ⟨W,Qd6,[],[]⟩ β' S a W'):W.grownBy W' none:=
 ⟨hs.evo.os,hs.evo.tape,hs.evo.output,hs.evo.size,fun k hk _=>hs.evo.same k hk (by rintro⟨j,B,h,_⟩; simp at h)⟩
def bkS(c1 c2 c3 c4:List PV)(l:Nat)(n:Int):St:=⟨47,0,[(6,.int .i64 n),(4,.ip c4),(3,.ip c3),(2,.ip c2),(1,.ip c1),(0,.fn (.yield l) [] [])],[]⟩
def bkX(c1 c2 c3 c4:List PV)(l:Nat)(n:Int)(cs:List PV):St:=⟨47,0,[(7,.ip cs),(6,.int .i64 n),(4,.ip c4),(3,.ip c3),(2,.ip c2),(1,.ip c1),(0,.fn (.yield l) [] [])],[]⟩
structure BkA(l:Nat)(vs:Array Value)(a:Act):Prop where
 s:a.tmps.size=47
 y:a.tmps.getD 0 undef=.func (.yield l) #[] #[]
 c:∀ i,i<4->a.tmps.getD (i+1) undef=vs.getD i undef
def BkA.put(h:BkA l vs a)(hd:∀ t:Nat,t<5->dst≠some t)(v:Value):BkA l vs (a.put dst v):=
 ⟨by rw[QdK]; exact h.s,by rw[QdS (hd 0 (by decide))]; exact h.y,fun i hi=>by rw[QdS (hd (i+1) (by omega))]; exact h.c i hi⟩
structure BkB(l:Nat)(vs:Array Value)(v:Value)(a:Act):Prop where
 b:BkA l vs a
 x:a.tmps.getD 7 undef=v
def BkB.put(h:BkB l vs u a)(hd:∀ t:Nat,t<5->dst≠some t)(h7:dst≠some 7)(v:Value):BkB l vs u (a.put dst v):=
 ⟨h.b.put hd v,by rw[QdS h7]; exact h.x⟩
def QvQ(hd:a.defers=[])(ha:BkA l vs a)(hi:a.tmps.getD 6 undef=.int .i64 n)(hc:RelL W Qd6 [] [.ip c1,.ip c2,.ip c3,.ip c4] vs):
 Sim ⟨W,Qd6,[],[]⟩ Qd6 (bkS c1 c2 c3 c4 l n) a W:=by
 refine⟨hd,ha.s,fun t=>?_,QuG W,Evo.refl _ _ _,rfl⟩
 simp only[bkS,look]
 split
 ·rename_i e; subst e; rw[hi]; exact .pv _ _ (.lit _ rfl)
 split
 ·rename_i e; subst e; rw[ha.c 3 (by decide)]; exact hc.2 3 _ rfl
 split
 ·rename_i e; subst e; rw[ha.c 2 (by decide)]; exact hc.2 2 _ rfl
 split
 ·rename_i e; subst e; rw[ha.c 1 (by decide)]; exact hc.2 1 _ rfl
 split
 ·rename_i e; subst e; rw[ha.c 0 (by decide)]; exact hc.2 0 _ rfl
 split
 ·rename_i e; subst e; rw[ha.y]; exact QiO
 ·exact .any _
def QAm(hd:a.defers=[])(ha:BkB l vs v a)(hi:a.tmps.getD 6 undef=.int .i64 n)(hc:RelL W Qd6 [] [.ip c1,.ip c2,.ip c3,.ip c4] vs)(hx:RelD W Qd6 [] (.ip cs) v):
 Sim ⟨W,Qd6,[],[]⟩ Qd6 (bkX c1 c2 c3 c4 l n cs) a W:=by
 refine⟨hd,ha.b.s,fun t=>?_,QuG W,Evo.refl _ _ _,rfl⟩
 have:=(QvQ hd ha.b hi hc).tm t
 simp only[bkX,look]
 split
 ·rename_i e; subst e; rw[ha.x]; exact hx
 ·simpa only[bkS,look] using this
def QEr(y:Value)(hv:vs.size=4):((#[y]++vs)++Jg (47-(#[y]++vs).size) undef).size=47/\((#[y]++vs)++Jg (47-(#[y]++vs).size) undef).getD 0 undef=y/\∀ i,i<4->((#[y]++vs)++Jg (47-(#[y]++vs).size) undef).getD (i+1) undef=vs.getD i undef:=by
 have e:(#[y]++vs).size=5:=by simp[hv]
 rw[e]
 refine⟨?_,?_,fun i hi=>?_⟩
 ·rw[Array.size_append,e,Array.size_replicate]
 ·rw[Jb,Jd (by rw[e]; omega),Jd (by show 0<1; omega)]; rfl
 ·rw [Jb,Jd (by rw [e]; omega),Array.getElem?_append_right (by show 1<=i + 1; omega),Jb]
  rfl
structure BkI(l:Nat)(vs:Array Value)(pos:Nat->Int)(N:Nat)(bad:Nat->Bool)(J:Nat->World->Prop)(k:Nat)(a:Act)(W:World):Prop where
 hk:k<=N
 re:∀ j,j<k->bad j=false
 d:a.defers=[]
 it:BkA l vs a
 i:a.tmps.getD 6 undef=.int .i64 (pos k)
 j:J k W
def QgA{rd:Option Nat}{n:Nat}{ops:Array Oper}{Q:Exit->Act->World->Prop}{K:St->Prop}{T:Act->Prop}{A B:List Oper}{tail:List Nat}(he:ops.toList=A++B)(hs:Sim O β S a w)(ht:T a)(h:Qar P ops.toList A K S)(hT:∀ o∈ops.toList,∀ (a:Act) (v:Value),T a->T (a.put o.dst v))(hK:∀ β S a w,Sim O β S a w->T a->K S->wpOpsIn (wd rd) n P ops Q tail a w):wpOpsIn (wd rd) n P ops Q (Jh 0 A.length++tail) a w:=by
 have:=QaS (P:=P) (rd:=rd) (n:=n) (O:=O) (ops:=ops) (Q:=Q) (tail:=tail) hT (K:=K) hK A [] B (by rw[he]; simp) β S a w hs ht h
 simpa using this
def QkE{rd:Option Nat}{n:Nat}{ops:Array Oper}{Q:Exit->Act->World->Prop}{K:St->Prop}{T:Act->Prop}{A B:List Oper}(he:ops.toList=A++B)(hs:Sim O β S a w)(ht:T a)(h:Qar P ops.toList B K S)(hT:∀ o∈ops.toList,∀ (a:Act) (v:Value),T a->T (a.put o.dst v))(hK:∀ β S a w,Sim O β S a w->T a->K S->Q .normal a w):wpOpsIn (wd rd) n P ops Q (Jh A.length B.length) a w:=by
 have:=QaS (P:=P) (rd:=rd) (n:=n) (O:=O) (ops:=ops) (Q:=Q) (tail:=[]) hT (K:=K) (fun β S a w h1 h2 h3=>hK β S a w h1 h2 h3) B A [] (by rw[he]; simp) β S a w hs ht h
 simpa using this
def Qmg{X Y Z:World}(h:X.grownBy Y none)(g:Y.grownBy Z none):X.grownBy Z none:=
 ⟨g.os.trans h.os,g.tape.trans h.tape,g.output.trans h.output,Jp h.size g.size,fun k hk hn=>(g.block k (Nat.lt_of_lt_of_le hk h.size) hn).trans (h.block k hk hn)⟩
def QGM(hf:P.funcs[gf]?=some fn)(hb:fn.body=some (.seq (.region i0 ops0 false) (.block 0 (.loop (.seq (.seq (.region i1 ops1 false) (.cond (.tmp 11) .skip (.exit 0))) (.block 1 (.seq (.seq (.region i2 ops2 false) (.cond (.tmp 25) (.seq (.region i3 ops3 false) .ret) .skip)) (.seq (.region i4 ops4 false) (.seq (.seq (.region i5 ops5 false) (.cond (.tmp 43) .ret .skip)) (.region i6 ops6 false))))))))))(hres:fn.results=#[])(hnt:fn.ntmps=47)(h3s:ops3.toList=A3++[y3])(hy3:y3.op=.call cl3)(hy3c:cl3.callee=.value (.tmp 26))(hy3a:cl3.args=#[.tmp 27,.tmp 28])(hy3g:y3.guard=none)(h5s:ops5.toList=A5++[y5]++[z5])(hy5:y5.op=.call cl5)(hy5c:cl5.callee=.value (.tmp 38))(hy5a:cl5.args=#[.tmp 39,.tmp 41])(hy5g:y5.guard=none)(hy5d:y5.dst=some 42)(h6s:ops6.toList=A6++B6)(hds:∀ o∈ops0.toList++ops1.toList++ops2.toList++ops3.toList++ops4.toList++ops5.toList++ops6.toList,∀ t:Nat,t<5->o.dst≠some t)(hd7:∀ o∈ops5.toList++ops6.toList,o.dst≠some 7)(pos:Nat->Int)(N:Nat)(bad:Nat->Bool)(dE dF:Nat->DV)(csE:Nat->List PV)(ff:FuncId)(above:Int)(hfF:∀ k,k<N->(dF k).fix=true)(hfE:∀ k,k<N->bad k=false->(dE k).fix=true)(hfC:∀ k,k<N->(csE k).all PV.fix=true)(hN:∀ k,k<N->bad k=true->k+1=N)(hpos:∀ k,k<N->above<pos k)(hdn:∀ k,k<N->bad k=false->pos (k+1)<pos k)(h0:∀ l:Nat,Qar P ops0.toList ops0.toList (fun S=>S.hp=[]/\look S.tm 6=.int .i64 (pos 0)) ⟨47,0,[(0,.fn (.yield l) [] []),(1,.ip c1),(2,.ip c2),(3,.ip c3),(4,.ip c4)],[]⟩)(h1:∀ (l k:Nat),k<=N->(∀ j,j<k->bad j=false)->Qar P ops1.toList ops1.toList (fun S=>S.hp=[]/\look S.tm 6=.int .i64 (pos k)/\look S.tm 11=.bool (decide (k<N))) (bkS c1 c2 c3 c4 l (pos k)))(h2:∀ (l k:Nat),k<N->Qar P ops2.toList ops2.toList (fun S=>S.hp=[]/\look S.tm 6=.int .i64 (pos k)/\look S.tm 25=.bool (bad k)) (bkS c1 c2 c3 c4 l (pos k)))(h3:∀ (l k:Nat),k<N->bad k=true->Qar P ops3.toList A3 (fun S=>S.hp=[]/\look S.tm 26=.fn (.yield l) [] []/\look S.tm 27=.int .i64 (pos k)/\look S.tm 28=dF k) (bkS c1 c2 c3 c4 l (pos k)))(h4:∀ (l k:Nat),k<N->bad k=false->Qar P ops4.toList ops4.toList (fun S=>(∃ T,S.hp=[⟨T,true,(csE k).map .pv⟩])/\look S.tm 6=.int .i64 (pos k)/\look S.tm 7=.ptr 0 0) (bkS c1 c2 c3 c4 l (pos k)))(h5:∀ (l k:Nat),k<N->bad k=false->Qar P ops5.toList A5 (fun S=>S.hp=[]/\look S.tm 6=.int .i64 (pos k)/\look S.tm 38=.fn (.yield l) [] []/\look S.tm 39=.int .i64 (pos k)/\look S.tm 41=dF k) (bkX c1 c2 c3 c4 l (pos k) (csE k)))(h5z:∀ (n:Int) (b:Bool),Qar P ops5.toList [z5] (fun S=>S.hp=[]/\look S.tm 6=.int .i64 n/\look S.tm 43=.bool !b) ⟨47,0,[(42,.bool b),(6,.int .i64 n)],[]⟩)(h6:∀ (l k:Nat),k<N->bad k=false->Qar P ops6.toList A6 (fun S=>S.hp=[]/\look S.tm 44=.pv (.lit (.func (.func ff) #[] #[]))/\look S.tm 45=dE k) (bkX c1 c2 c3 c4 l (pos k) (csE k)))(h6b:∀ k,k<N->bad k=false->Qar P ops6.toList B6 (fun S=>S.hp=[]/\look S.tm 6=.int .i64 (pos (k+1))) ⟨47,0,[(45,dE k),(44,.fn (.func ff) [] [])],[]⟩):
 QF2 P gf [.ip c1,.ip c2,.ip c3,.ip c4] N (fun k=>#[.int .i64 (pos k),(dF k).val]):=by
 intro vs l J Jx W0 hJ hJx hcp hY hJ0
 have hT:∀ (o:Oper),o∈ops0.toList++ops1.toList++ops2.toList++ops3.toList++ops4.toList++ops5.toList++ops6.toList->∀ (a:Act) (v:Value),BkA l vs a->BkA l vs (a.put o.dst v):=fun o ho a v h=>h.put (hds o ho) v
 have hTB:∀ (u:Value) (o:Oper),o∈ops5.toList++ops6.toList->∀ (a:Act) (v:Value),BkB l vs u a->BkB l vs u (a.put o.dst v):=fun u o ho a v h=>h.put (hds o (by rcases List.mem_append.1 ho with q | q<;>simp[q])) (hd7 o ho) v
 have hvs:vs.size=4:=(hcp 0 W0 hJ0).1.symm
 show CallsIn (wd none) 9 P gf _ W0 _
 refine callsIn_of_wp (F:=wd none) (n:=9) hf hb trivial ?_
 rw[hnt]
 obtain⟨s1,s2,s3⟩:=QEr (.func (.yield l) #[] #[]) hvs
 generalize ((#[Value.func (.yield l) #[] #[]]++vs)++Jg (47-(#[Value.func (.yield l) #[] #[]]++vs).size) undef)=t0 at s1 s2 s3 |-
 have hsim0:Sim ⟨W0,Qd6,[],[]⟩ Qd6 ⟨47,0,[(0,.fn (.yield l) [] []),(1,.ip c1),(2,.ip c2),(3,.ip c3),(4,.ip c4)],[]⟩ { tmps:=t0,defers:=[] } W0:=by
  have hc:=hcp 0 W0 hJ0
  refine⟨rfl,s1,fun t=>?_,QuG W0,Evo.refl _ _ _,rfl⟩
  simp only[look]
  split
  ·rename_i e; subst e; rw[s2]; exact QiO
  split
  ·rename_i e; subst e; rw[s3 0 (by decide)]; exact hc.2 0 _ rfl
  split
  ·rename_i e; subst e; rw[s3 1 (by decide)]; exact hc.2 1 _ rfl
  split
  ·rename_i e; subst e; rw[s3 2 (by decide)]; exact hc.2 2 _ rfl
  split
  ·rename_i e; subst e; rw[s3 3 (by decide)]; exact hc.2 3 _ rfl
  ·exact .any _
 refine wpIn_seq (QeH (T:=BkA l vs) hsim0 ⟨s1,s2,s3⟩ (h0 l) (fun o ho=>hT o (by simp[ho])) ?_)
 rintro β1 S1 a1 W1 hs1 ht1 ⟨-,e2⟩
 have lk:∀ {β:Map} {S:St} {a:Act} {W W':World} {t:Nat} {v:Value},Sim ⟨W,Qd6,[],[]⟩ β S a W'->look S.tm t=.pv (.lit v)->a.tmps.getD t undef=v:=by
  intro β S a W W' t v hs e
  have:=hs.tm t
  rw[e] at this
  exact Qk this
 have hi1:BkI l vs pos N bad J 0 a1 W1:=⟨Nat.zero_le _,fun j hj=>absurd hj (Nat.not_lt_zero _),hs1.defers,ht1,lk hs1 e2,hJ _ _ _ hJ0 hs1.quiet⟩
 refine wpIn_block ?_
 refine wpIn_loop (fun a W=>∃ k,BkI l vs pos N bad J k a W) (fun a _=>match a.tmps.getD 6 undef with | .int _ i=>(i-above).toNat | _=>0) ⟨_,hi1⟩ ?_
 rintro a W ⟨k,hk,hre,hde,hit,hi6,hj⟩
 refine wpIn_seq (wpIn_seq (QeH (T:=BkA l vs) (QvQ hde hit hi6 (hcp _ _ hj)) hit (h1 l k hk hre) (fun o ho=>hT o (by simp[ho])) ?_))
 rintro β2 S2 a2 W2 hs2 ht2 ⟨-,e2,e3⟩
 have hj2:=hJ _ _ _ hj hs2.quiet
 have hi2:=lk hs2 e2
 refine wpIn_cond (lk hs2 e3) ?_
 by_cases hkN:k<N
 rotate_left
 ·obtain rfl:k = N:=by omega
  rw[decide_eq_false hkN]
  refine wpIn_exit ?_
  simp only[Exit.then,Exit.inBlock,if_true]
  exact⟨hs2.defers,_,results_none hres _ _ _,⟨_,rfl⟩,.inl hj2⟩
 rw[decide_eq_true hkN]
 refine wpIn_skip ?_
 refine wpIn_block (wpIn_seq (wpIn_seq (QeH (T:=BkA l vs) (QvQ hs2.defers ht2 hi2 (hcp _ _ hj2)) ht2 (h2 l k hkN) (fun o ho=>hT o (by simp[ho])) ?_)))
 rintro β3 S3 a3 W3 hs3 ht3 ⟨-,f2,f3⟩
 have hj3:=hJ _ _ _ hj2 hs3.quiet
 have hi3:=lk hs3 f2
 refine wpIn_cond (lk hs3 f3) ?_
 cases hbad:bad k
 rotate_left
 ·-- the number is out of the log
  refine wpIn_seq (wpIn_region ?_)
  have hr3:Jt ops3.size=Jh 0 A3.length++[A3.length]:=by
   have:ops3.size=A3.length+1:=by have:=congrArg Js h3s; simpa using this
   rw[this,Jl,Jf]
  rw[hr3]
  refine QgA (T:=BkA l vs) h3s (QvQ hs3.defers ht3 hi3 (hcp _ _ hj3)) ht3 (h3 l k hkN hbad) (fun o ho=>hT o (by simp[ho])) ?_
  rintro β4 S4 a4 W4 hs4 ht4 ⟨-,g2,g3,g4⟩
  have hy3i:ops3[A3.length]?=some y3:=by
   have:ops3.toList[A3.length]?=some y3:=by rw[h3s]; simp
   simpa using this
  have g2':=hs4.tm 26
  rw[g2] at g2'
  have g4':=hs4.tm 28
  rw[g4] at g4'
  have q1:a4.eval (.tmp 27)=.int .i64 (pos k):=lk hs4 g3
  have q2:a4.eval (.tmp 28)=(dF k).val:=DV.fix_eq (hfF k hkN) g4'
  refine QfI hy3i (by simp[Region.wanted,hy3g]) (Qip hy3 hy3c (QeG g2') (args:=#[.int .i64 (pos k),(dF k).val]) (by rw[hy3a]; simp only[Jr,Ju,Jv,q1,q2]) (hY k hkN W3 W4 hj3 hs4.quiet) ?_)
  rintro e Z (⟨rfl,hZ,-⟩ | ⟨rfl,hZ⟩)
  ·refine ⟨_,rfl,wpIn_ret ?_⟩
   simp only[Exit.then,Exit.inBlock]
   exact⟨by rw[Qct]; exact hs4.defers,_,results_none hres _ _ _,⟨_,rfl⟩,.inl (by rw[<- hN k hkN hbad]; exact hZ)⟩
  ·refine ⟨_,rfl,wpIn_ret ?_⟩
   simp only[Exit.then,Exit.inBlock]
   exact⟨by rw[Qct]; exact hs4.defers,_,results_none hres _ _ _,⟨_,rfl⟩,.inr hZ⟩
 -- an entry
 refine wpIn_skip ?_
 refine wpIn_seq (QeH (T:=BkA l vs) (QvQ hs3.defers ht3 hi3 (hcp _ _ hj3)) ht3 (h4 l k hkN hbad) (fun o ho=>hT o (by simp[ho])) ?_)
 rintro β4 S4 a4 W4 hs4 ht4 ⟨⟨T4,g1⟩,g2,g3⟩
 have hi4:=lk hs4 g2
 have hq34:=hs4.quiet
 have hj4:=hJ _ _ _ hj3 hq34
 have g3':=hs4.tm 7
 rw[g3] at g3'
 obtain⟨b,hbx,hbn⟩:=QCf hs4.evo hs4.heap (k:=0) (T:=T4) (cs:=csE k) (by rw[g1]; rfl) g3'
 generalize hv7:a4.tmps.getD 7 undef=v7 at g3' hbx
 have ht4':BkB l vs v7 a4:=⟨ht4,hv7⟩
 refine wpIn_seq (wpIn_seq (wpIn_region ?_))
 have hsz5:ops5.size=A5.length+1+1:=by have:=congrArg Js h5s; simpa using this
 have hr5:Jt ops5.size=Jh 0 A5.length++([A5.length]++[A5.length+1]):=by
  rw[hsz5,Jl,Jl,Jf,Jo]
 rw[hr5]
 refine QgA (T:=BkB l vs v7) (B:=[y5]++[z5]) (by rw[h5s,Jo]) (QAm hs4.defers ht4' hi4 (hcp _ _ hj4) hbx.seen) ht4' (h5 l k hkN hbad) (fun o ho=>hTB v7 o (by simp[ho])) ?_
 rintro β5 S5 a5 W5 hs5 ht5 ⟨-,k2,k3,k4,k5⟩
 have hq45:=hs5.quiet
 have hi5:=lk hs5 k2
 have hy5i:ops5[A5.length]?=some y5:=by
  have:ops5.toList[A5.length]?=some y5:=by rw[h5s]; simp
  simpa using this
 have k3':=hs5.tm 38
 rw[k3] at k3'
 have k5':=hs5.tm 41
 rw[k5] at k5'
 have q1:a5.eval (.tmp 39)=.int .i64 (pos k):=lk hs5 k4
 have q2:a5.eval (.tmp 41)=(dF k).val:=DV.fix_eq (hfF k hkN) k5'
 have hq35:W3.grownBy W5 none:=Qmg hq34 hq45
 refine QfI hy5i (by simp[Region.wanted,hy5g]) (Qip hy5 hy5c (QeG k3') (args:=#[.int .i64 (pos k),(dF k).val]) (by rw[hy5a]; simp only[Jr,Ju,Jv,q1,q2]) (hY k hkN W3 W5 hj3 hq35) ?_)
 -- QW a round
 have rest:∀ (bo:Bool) (Z:World) (Q:Exit->Act->World->Prop),(∀ β6 S6 a6 W6,Sim ⟨Z,Qd6,[],[]⟩ β6 S6 a6 W6->BkB l vs v7 a6->look S6.tm 6=.int .i64 (pos k)->look S6.tm 43=.bool !bo->Q .normal a6 W6) ->
  wpOpsIn (wd none) 9 P ops5 Q [A5.length+1] (a5.put y5.dst (.bool bo)) Z:=by
  intro bo Z Q hQ
  have hT':=hTB v7 y5 (by simp[h5s]) a5 (.bool bo) ht5
  have hs':Sim ⟨Z,Qd6,[],[]⟩ Qd6 ⟨47,0,[(42,.bool bo),(6,.int .i64 (pos k))],[]⟩ (a5.put y5.dst (.bool bo)) Z:=by
   refine⟨by rw[Qct]; exact hs5.defers,hT'.b.s,fun t=>?_,QuG Z,Evo.refl _ _ _,rfl⟩
   simp only[look]
   split
   ·rename_i e; subst e; rw[hy5d,QbC (fun u hu=>by cases hu; rw[ht5.b.s]; decide),if_pos rfl]; exact .pv _ _ (.lit _ rfl)
   split
   ·rename_i e; subst e; rw[hy5d,QdS (by decide),hi5]; exact .pv _ _ (.lit _ rfl)
   ·exact .any _
  have:=QkE (P:=P) (rd:=none) (n:=9) (Q:=Q) (T:=BkB l vs v7) (A:=A5++[y5]) (B:=[z5]) h5s hs' hT' (h5z (pos k) bo) (fun o ho=>hTB v7 o (by simp[ho])) (fun β6 S6 a6 W6 m1 m2 m3=>hQ β6 S6 a6 W6 m1 m2 m3.2.1 m3.2.2)
  simpa using this
 rintro e Z (⟨rfl,hZ,hkeep⟩ | ⟨rfl,hZ⟩)
 rotate_left
 ·refine ⟨_,rfl,rest false Z _ ?_⟩
  rintro β6 S6 a6 W6 hs6 ht6-m3
  refine wpIn_cond (lk hs6 m3) (wpIn_ret ?_)
  simp only[Exit.then,Exit.inBlock]
  exact⟨hs6.defers,_,results_none hres _ _ _,⟨_,rfl⟩,.inr (hJx _ _ hZ hs6.quiet)⟩
 refine⟨_,rfl,rest true Z _ ?_⟩
 rintro β6 S6 a6 W6 hs6 ht6 m2 m3
 have hi6':=lk hs6 m2
 refine wpIn_cond (lk hs6 m3) (wpIn_skip ?_)
 show Code.wpIn (wd none) 9 P (.region i6 ops6 false) _ a6 W6
 refine wpIn_region ?_
 have hr6:Jt ops6.size=Jh 0 A6.length++Jh A6.length B6.length:=by
  have:ops6.size=A6.length+B6.length:=by have:=congrArg Js h6s; simpa using this
  rw[this,Jf,<- List.range'_append_1]; simp
 rw[hr6]
 have hj6:=hJ _ _ _ hZ hs6.quiet
 have hb5:∀ o:Obj,W4.heap[b]?=some o->W6.heap[b]?=some o:=fun o ho=>by
  have hlt:=(Ja.1 ho).1
  have p1:W5.heap[b]?=some o:=by rw[hq45.block b hlt (by simp)]; exact ho
  have p2:=hkeep b o hbn p1
  rw[hs6.quiet.block b (Ja.1 p2).1 (by simp)]; exact p2
 have hbx6:=hbx.keep (hfC k hkN) hb5
 refine QgA (T:=BkB l vs v7) h6s (QAm hs6.defers ht6 hi6' (hcp _ _ hj6) hbx6.seen) ht6 (h6 l k hkN hbad) (fun o ho=>hTB v7 o (by simp[ho])) ?_
 rintro β7 S7 a7 W7 hs7 ht7 ⟨-,n2,n3⟩
 have hj7:=hJ _ _ _ hj6 hs7.quiet
 have n3':=hs7.tm 45
 rw[n3] at n3'
 have hsim7:Sim ⟨W7,Qd6,[],[]⟩ Qd6 ⟨47,0,[(45,dE k),(44,.fn (.func ff) [] [])],[]⟩ a7 W7:=by
  have n2':=lk hs7 n2
  refine⟨hs7.defers,ht7.b.s,fun t=>?_,QuG W7,Evo.refl _ _ _,rfl⟩
  simp only[look]
  split
  ·rename_i e; subst e; rw[DV.fix_eq (hfE k hkN hbad) n3']; exact DV.fix_rel (hfE k hkN hbad)
  split
  ·rename_i e; subst e; rw[n2']; exact .fn _ [] [] #[] #[] rfl rfl (by simp) (by simp)
  ·exact .any _
 refine QkE (T:=BkB l vs v7) h6s hsim7 ht7 (h6b k hkN hbad) (fun o ho=>hTB v7 o (by simp[ho])) ?_
 rintro β8 S8 a8 W8 hs8 ht8 ⟨-,r2⟩
 have hi8:=lk hs8 r2
 refine⟨⟨k+1,by omega,fun j hjk=>?_,hs8.defers,ht8.b,hi8,hJ _ _ _ hj7 hs8.quiet⟩,?_⟩
 ·rcases Nat.lt_succ_iff_lt_or_eq.1 hjk with q | rfl
  ·exact hre j q
  ·exact hbad
 ·show (match a8.tmps.getD 6 undef with | .int _ i=>(i - above).toNat | _=>0) < (match a.tmps.getD 6 undef with | .int _ i=>(i - above).toNat | _=>0)
  rw[hi8,hi6]
  dsimp only
  have:=hdn k hkN hbad
  have:=hpos k hkN
  exact(Int.toNat_lt_toNat (by omega)).2 (by omega)
def QEi(hf:P.funcs[gf]?=some fn)(hb:fn.body=some (.seq (.region i0 ops0 false) (.block 0 (.loop (.seq (.seq (.region i1 ops1 false) (.cond (.tmp 11) .skip (.exit 0))) (.block 1 (.seq (.seq (.region i2 ops2 false) (.cond (.tmp 25) (.seq (.region i3 ops3 false) .ret) .skip)) (.seq (.region i4 ops4 false) (.seq (.seq (.region i5 ops5 false) (.cond (.tmp 43) .ret .skip)) (.region i6 ops6 false))))))))))(hres:fn.results=#[])(hnt:fn.ntmps=47)(h3s:ops3.toList=[u0,u1,u2,y3])(hy3:y3.op=.call cl3)(hy3c:cl3.callee=.value (.tmp 26))(hy3a:cl3.args=#[.tmp 27,.tmp 28])(hy3g:y3.guard=none)(h5s:ops5.toList=[q0,q1,q2,q3,y5,z5])(hy5:y5.op=.call cl5)(hy5c:cl5.callee=.value (.tmp 38))(hy5a:cl5.args=#[.tmp 39,.tmp 41])(hy5g:y5.guard=none)(hy5d:y5.dst=some 42)(h6s:ops6.toList=[r0,r1,r2,r3])(hds:∀ o∈ops0.toList++ops1.toList++ops2.toList++ops3.toList++ops4.toList++ops5.toList++ops6.toList,∀ t:Nat,t<5->o.dst≠some t)(hd7:∀ o∈ops5.toList++ops6.toList,o.dst≠some 7)(pos:Nat->Int)(N:Nat)(bad:Nat->Bool)(dE dF:Nat->DV)(csE:Nat->List PV)(ff:FuncId)(above:Int)(hfF:∀ k,k<N->(dF k).fix=true)(hfE:∀ k,k<N->bad k=false->(dE k).fix=true)(hfC:∀ k,k<N->(csE k).all PV.fix=true)(hN:∀ k,k<N->bad k=true->k+1=N)(hpos:∀ k,k<N->above<pos k)(hdn:∀ k,k<N->bad k=false->pos (k+1)<pos k)(h0:∀ l:Nat,Qar P ops0.toList ops0.toList (fun S=>S.hp=[]/\look S.tm 6=.int .i64 (pos 0)) ⟨47,0,[(0,.fn (.yield l) [] []),(1,.ip c1),(2,.ip c2),(3,.ip c3),(4,.ip c4)],[]⟩)(h1:∀ (l k:Nat),k<=N->(∀ j,j<k->bad j=false)->Qar P ops1.toList ops1.toList (fun S=>S.hp=[]/\look S.tm 6=.int .i64 (pos k)/\look S.tm 11=.bool (decide (k<N))) (bkS c1 c2 c3 c4 l (pos k)))(h2:∀ (l k:Nat),k<N->Qar P ops2.toList ops2.toList (fun S=>S.hp=[]/\look S.tm 6=.int .i64 (pos k)/\look S.tm 25=.bool (bad k)) (bkS c1 c2 c3 c4 l (pos k)))(h3:∀ (l k:Nat),k<N->bad k=true->Qar P ops3.toList [u0,u1,u2] (fun S=>S.hp=[]/\look S.tm 26=.fn (.yield l) [] []/\look S.tm 27=.int .i64 (pos k)/\look S.tm 28=dF k) (bkS c1 c2 c3 c4 l (pos k)))(h4:∀ (l k:Nat),k<N->bad k=false->Qar P ops4.toList ops4.toList (fun S=>(∃ T,S.hp=[⟨T,true,(csE k).map .pv⟩])/\look S.tm 6=.int .i64 (pos k)/\look S.tm 7=.ptr 0 0) (bkS c1 c2 c3 c4 l (pos k)))(h5:∀ (l k:Nat),k<N->bad k=false->Qar P ops5.toList [q0,q1,q2,q3] (fun S=>S.hp=[]/\look S.tm 6=.int .i64 (pos k)/\look S.tm 38=.fn (.yield l) [] []/\look S.tm 39=.int .i64 (pos k)/\look S.tm 41=dF k) (bkX c1 c2 c3 c4 l (pos k) (csE k)))(h5z:∀ (n:Int) (b:Bool),Qar P ops5.toList [z5] (fun S=>S.hp=[]/\look S.tm 6=.int .i64 n/\look S.tm 43=.bool !b) ⟨47,0,[(42,.bool b),(6,.int .i64 n)],[]⟩)(h6:∀ (l k:Nat),k<N->bad k=false->Qar P ops6.toList [r0,r1] (fun S=>S.hp=[]/\look S.tm 44=.pv (.lit (.func (.func ff) #[] #[]))/\look S.tm 45=dE k) (bkX c1 c2 c3 c4 l (pos k) (csE k)))(h6b:∀ k,k<N->bad k=false->Qar P ops6.toList [r2,r3] (fun S=>S.hp=[]/\look S.tm 6=.int .i64 (pos (k+1))) ⟨47,0,[(45,dE k),(44,.fn (.func ff) [] [])],[]⟩):
 QF2 P gf [.ip c1,.ip c2,.ip c3,.ip c4] N (fun k=>#[.int .i64 (pos k),(dF k).val]):=
 QGM (A3:=[u0,u1,u2]) (A5:=[q0,q1,q2,q3]) (A6:=[r0,r1]) (B6:=[r2,r3]) hf hb hres hnt h3s hy3 hy3c hy3a hy3g h5s hy5 hy5c hy5a hy5g hy5d h6s hds hd7 pos N bad dE dF csE ff above hfF hfE hfC hN hpos hdn h0 h1 h2 h3 h4 h5 h5z h6 h6b
end Go.V
namespace Go.V
def VR(P:Program)(c:Code)(Q:Exit->St->Prop)(S:St):Prop:=∀ (rd:Option Nat) (n:Nat) (O:Org) (β:Map) (a:Act) (w:World),Sim O β S a w->c.wpIn (wd rd) n P (Ql1 O Q) a w
@[congr] def QGe(c:Code)(Q:Exit->St->Prop)(h:S=S'):VR P c Q S=VR P c Q S':=by rw[h]
variable {P:Program}
theorem BodyOf.vr:BodyOf P body (VR P body):=fun rd n _ _ h O β a w hs=>h rd n O β a w hs
theorem VR.plain(hp:QaL c=true)(h:QC P c Q S):VR P c Q S:=fun _ _ _ _ _ _ hs=>Q8 c Q S hp h _ _ _ _ hs
theorem VR.seq(h:VR P x (Qag Q (VR P y Q)) S):VR P (.seq x y) Q S:=fun rd n O β a w hs=>by
 refine wpIn_seq (wpIn_mono (h rd n O β a w hs) fun e a' w' hq=>?_)
 obtain⟨β',S',hs',hq⟩:=hq
 cases e with
 | normal=>exact hq rd n O β' a' w' hs'
 | _=>exact⟨β',S',hs',hq⟩
theorem VR.first(hp:QaL x=true)(h:QC P x (Qag Q (VR P y Q)) S):VR P (.seq x y) Q S:=.seq (.plain hp h)
theorem VR.draw{id:Nat}(hm:P.follows .mixedOrders=true)(hB:Qe3 ops=true)(h:vdr P ops.toList ops.toList [] (Q .normal) S):VR P (.region id ops true) Q S:=fun _ _ _ _ _ _ hs=>QzI hm hB h _ _ _ _ hs
theorem VR.cond(ht:S.ev c=.pv (.lit (.bool t)))(h1:t=true->VR P x Q S)(h2:t=false->VR P y Q S):VR P (.cond c x y) Q S:=fun rd n O β a w hs=>by
 have hc:=hs.ev c
 rw[ht] at hc
 refine wpIn_cond (Qk hc) ?_
 cases t
 ·exact h2 rfl rd n O β a w hs
 ·exact h1 rfl rd n O β a w hs
theorem VR.block {id:Nat} (h:VR P c (QaG id Q) S):VR P (.block id c) Q S:=fun rd n O β a w hs=>by
 refine wpIn_block (wpIn_mono (h rd n O β a w hs) fun e a' w' hq=>?_)
 obtain⟨β',S',hs',hq⟩:=hq
 cases e with
 | exit id' =>
   simp only[QaG] at hq
   simp only[Exit.inBlock]
   split
   ·rename_i he; rw[if_pos he] at hq; exact⟨β',S',hs',hq⟩
   ·rename_i he; rw[if_neg he] at hq; exact⟨β',S',hs',hq⟩
 | _=>exact⟨β',S',hs',hq⟩
end Go.V
namespace Go.V
open Go
def dd(hf:P.funcs[g]?=some fn)(hc:QC P c (Qc4 P fn.results.toList h.length R) ⟨fn.ntmps,h.length,QhT 0 args,h⟩)(hb:fn.body=some c:=by exact rfl)(hname:(fn.name == "runtime.NumGoroutine")=false:=by kernel_rfl)(hn:args.length<=fn.ntmps:=by exact Nat.le_of_ble_eq_true rfl):VCalls P g args h R:=Qm5 hf hb hname hn hc
def dk(hf:P.funcs[g]?=some fn)(hc:QC P c (QfK P fn.results.toList h.length R) ⟨fn.ntmps,h.length,QhT 0 args,h⟩)(hb:fn.body=some c:=by exact rfl)(hname:(fn.name == "runtime.NumGoroutine")=false:=by kernel_rfl)(hn:args.length<=fn.ntmps:=by exact Nat.le_of_ble_eq_true rfl):VCalls P g args h R:=QkW hf hb hname hn hc
end Go.V
