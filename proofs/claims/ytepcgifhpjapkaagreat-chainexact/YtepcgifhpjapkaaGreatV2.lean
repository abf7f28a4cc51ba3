/-
  Contracts of functions and plain laws. No condition.
-/
import Derived.Test.YtepcgifhpjapkaaGreatV1
import Derived.Orders
import Derived.RangeFuncWrites
import Derived.RangeFuncLeaves
import Derived.RangeFuncCalls
import Derived.OwnWalkIn
import Derived.OrdersIn
import Derived.RangeFuncNested
import Derived.Carry
import Derived.Deep.Slices
import Derived.OpenShut
set_option linter.unusedSimpArgs false
set_option linter.unusedVariables false
set_option maxRecDepth 100000
set_option maxHeartbeats 8000000
namespace Go.V
def Qjk (P:Program) (S:St):ResultVar->Option DV
  | .tmp t=>some (look S.tm t)
  | .cell a T=>QdX P S.hp T (look S.tm a)
def QD (P:Program) (S:St) (rs:List ResultVar):Option DV:=
  match Qh (rs.map (Qjk P S)) with
  | some [d]=>some d
  | some ds=>some (.tup ds)
  | none=>none
def Qm3 (tmps:Array Value):ResultVar->Sem Value
  | .tmp t=>pure (tmps.getD t undef)
  | .cell a t=>do loadVar t (<- asAddr (tmps.getD a undef))
theorem Qok (fn:Func) (tmps:Array Value):results fn tmps = (do
    let vs <- fn.results.mapM (Qm3 tmps)
    pure (if h:vs.size = 1 then vs[0] else .tuple vs)):=rfl
theorem QnJ {P:Program} {O:Org} {β:Map} {S:St} {a:Act} {w:World} (h:Sim O β S a w) {r:ResultVar} {d:DV} (hr:Qjk P S r = some d) :
    ∃ v,(Qm3 a.tmps r).run P w = .ok v w/\RelD w β S.hp d v:=by
  cases r with
  | tmp t =>
    simp [Qjk] at hr
    subst hr
    exact ⟨_,rfl,h.tm t⟩
  | cell ad T =>
    simp only [Qjk] at hr
    obtain ⟨v,h1,h2⟩:=Qf5 (P:=P) h.heap (h.tm ad) hr
    refine ⟨v,?_,h2⟩
    have hrel:=h.tm ad
    simp only [Qm3]
    generalize a.tmps.getD ad undef = u at hrel h1 |-
    generalize look S.tm ad = e at hrel hr
    cases hrel with
    | ptr k off b hk hm=>simpa [Instr.loadAt,Instr.sureAddr,asAddr] using h1
    | ip cs ad' val h1' h2' h3'=>simpa [Instr.loadAt,Instr.sureAddr,asAddr] using h1
    | _=>simp [QdX] at hr
theorem QbF {P:Program} {O:Org} {β:Map} {S:St} {a:Act} {w:World} (h:Sim O β S a w) {fn:Func} {d:DV} (hr:QD P S fn.results.toList = some d) :
    ∃ v,(results fn a.tmps).run P w = .ok v w/\RelD w β S.hp d v:=by
  have key:∀ (rs:List ResultVar) (ds:List DV),Qh (rs.map (Qjk P S)) = some ds->∃ vs:List Value,
      (rs.mapM (Qm3 a.tmps)).run P w = .ok vs w/\RelL w β S.hp ds vs.toArray:=by
    intro rs
    induction rs with
    | nil=>intro ds h; simp [Qh] at h; subst h; exact ⟨[],by simp,by simp [RelL]⟩
    | cons r rs ih =>
      intro ds hds
      cases h1:Qjk P S r with
      | none=>simp [Qh,h1] at hds
      | some d =>
        cases h2:Qh (rs.map (Qjk P S)) with
        | none=>simp [Qh,h1,h2] at hds
        | some ds' =>
          simp [Qh,h1,h2] at hds
          subst hds
          obtain ⟨vs,e1,e2,e3⟩:=ih ds' h2
          obtain ⟨v,e4,e5⟩:=QnJ (P:=P) h h1
          refine ⟨v :: vs,?_,by simpa using e2,fun i d hi=>?_⟩
          · rw [List.mapM_cons]
            simp only [Sem.run_bind,e4,Result.andThen_ok,e1,Sem.run_pure]
          · cases i with
            | zero=>simp at hi; subst hi; simpa using e5
            | succ i =>
              have:=e3 i d (by simpa using hi)
              simpa [Array.getD_eq_getD_getElem?] using this
  unfold QD at hr
  cases hds:Qh (fn.results.toList.map (Qjk P S)) with
  | none=>simp [hds] at hr
  | some ds =>
    obtain ⟨vs,e1,e2⟩:=key _ _ hds
    have hrun:∀ v,(if h:vs.toArray.size = 1 then vs.toArray[0] else Value.tuple vs.toArray) = v->(results fn a.tmps).run P w = .ok v w:=by
      intro v hv
      rw [Qok,Array.mapM_eq_mapM_toList]
      simp only [Sem.run_bind,Sem.run_map]
      rw [e1]
      simp only [Result.andThen_ok,Sem.run_pure]
      rw [<- hv]
    rw [hds] at hr
    split at hr
    · rename_i d' he
      simp at hr he
      subst hr he
      have hl:vs.length = 1:=by have:=e2.1; simpa using this.symm
      obtain ⟨v,rfl⟩:=List.length_eq_one_iff.1 hl
      exact ⟨v,hrun v (by simp),by have:=e2.2 0 d' rfl; simpa using this⟩
    · rename_i ds' hne he
      simp at hr he
      subst hr he
      refine ⟨.tuple vs.toArray,hrun _ ?_,.tup _ _ e2.1 e2.2⟩
      rw [dif_neg]
      intro h1
      have hl:ds.length = 1:=by rw [e2.1]; exact h1
      obtain ⟨x,hx⟩:=List.length_eq_one_iff.1 hl
      exact hne x hx
    · simp at hr
def Qbc (n:Nat) (hp:Qa):Option Qa:=
  Qh ((hp.take n).map fun B=>if B.live then (Qh (B.cells.map (Qcq n hp))).map fun cs=>{ B with cells:=cs } else some { B with cells:=[] })
def Qtw (n:Nat) (hp:Qa) (d:DV) (R:DV->Qa->Prop):Prop:=
  match frz n hp d,Qbc n hp with
  | some d',some hp'=>R d' hp'
  | _,_=>False
def Qcv (P:Program) (rs:List ResultVar) (n:Nat) (R:DV->Qa->Prop) (e:Exit) (S:St):Prop :=
  match e with
  | .normal | .ret=>match QD P S rs with
    | some d=>Qtw n S.hp d R
    | none=>False
  | _=>False
def Qap (P:Program) (rs:List ResultVar) (R:DV->Qa->Prop) (e:Exit) (S:St):Prop :=
  match e with
  | .normal | .ret=>match QD P S rs with
    | some d=>R d S.hp
    | none=>False
  | _=>False
theorem Qc1 {w:World} {β:Map} {hp:Qa} (hh:HeapRel w β hp) {n:Nat} (hn:n<=hp.length) {d:DV} {v:Value} (hd:RelD w β hp d v) {R:DV->Qa->Prop} (h:Qtw n hp d R) :
    ∃ d' hp',R d' hp'/\RelD w β hp' d' v/\HeapRel w β hp'/\hp'.length = n/\∀ b,live β hp' b->live β hp b:=by
  unfold Qtw at h
  split at h
  · rename_i d' hp' h1 h2
    unfold Qbc at h2
    obtain ⟨g1,g2⟩:=QF h2
    have hlen:hp'.length = n:=by rw [g1]; simp; omega
    have at_:∀ {k:Nat} {B':Blk},hp'[k]? = some B'->∃ B,k < n/\hp[k]? = some B/\B'.ty = B.ty/\B'.live = B.live/\(B.live = true->Qh (B.cells.map (Qcq n hp)) = some B'.cells):=by
      intro k B' hk
      have g3:=g2 k B' hk
      rw [List.getElem?_map,List.getElem?_take] at g3
      split at g3
      · rename_i hkn
        cases hb:hp[k]? with
        | none=>simp [hb] at g3
        | some B =>
          simp only [hb,Option.map_some,Option.some.injEq] at g3
          refine ⟨B,hkn,rfl,?_⟩
          split at g3
          · rename_i hl
            cases hc:Qh (B.cells.map (Qcq n hp)) with
            | none=>simp [hc] at g3
            | some cs=>simp [hc] at g3; subst g3; exact ⟨rfl,rfl,fun _=>rfl⟩
          · rename_i hl
            simp at g3
            subst g3
            exact ⟨rfl,rfl,fun h=>absurd h hl⟩
      · simp at g3
    have hsub:∀ b,live β hp' b->live β hp b:=by
      rintro b ⟨k,B',k1,k2,k3⟩
      obtain ⟨B,_,q1,_,q2,_⟩:=at_ k1
      exact ⟨k,B,q1,by rw [<- q2]; exact k2,k3⟩
    have hlv:Leaves w β hp n (img β hp'):=by
      refine ⟨fun b hb=>hb.imp id (hsub b),fun k B b hk h1 h2 h3 hb=>?_⟩
      rcases hb with hb | ⟨j,D',j1,j2,j3⟩
      · exact hh.avoid k B b h1 h2 h3 hb
      · obtain ⟨D,q0,q1,_,q2,_⟩:=at_ j1
        have:=hh.inj k j B D b h1 q1 h2 (by rw [<- q2]; exact j2) h3 j3
        omega
    refine ⟨d',hp',h,Qsr hh hlv (fun _ _=>rfl) (by omega) hd h1,?_,hlen,hsub⟩
    refine ⟨fun k B' b hk hl hb=>?_,fun k B' hk hl hb=>?_,fun i j B B' b hi hj h1 h2 h3 h4=>?_,fun k B' b hk hl hb=>?_,hh.bound⟩
    · obtain ⟨B,_,q1,q2,q3,q4⟩:=at_ hk
      have hl':B.live = true:=by rw [<- q3]; exact hl
      obtain ⟨C,c1,c2,c3⟩:=hh.blk k B b q1 hl' hb
      have hcs:=q4 hl'
      obtain ⟨e1,e2⟩:=QF hcs
      refine ⟨C,by rw [q2]; exact c1,by rw [e1]; simpa using c2,fun i x hx=>?_⟩
      have e3:=e2 i x hx
      rw [List.getElem?_map] at e3
      cases hc:B.cells[i]? with
      | none=>simp [hc] at e3
      | some y =>
        simp [hc] at e3
        refine ⟨?_,Qb1 hh hlv (fun _ _=>rfl) (by omega) (c3 i y hc).2 e3⟩
        have hy:=(c3 i y hc).1
        unfold Qcq at e3
        split at e3
        · split at e3
          · simp at e3; subst e3; rfl
          · cases hz:Qld n hp 4 (.own _ _ _ _) with
            | none=>rw [hz] at e3; simp at e3
            | some p=>rw [hz] at e3; simp at e3; subst e3; rfl
        · split at e3
          · simp at e3; subst e3; rfl
          · simp at e3
        · simp at e3; subst e3; rfl
        · simp at e3
        · simp [DV.one] at hy
        · simp at e3; subst e3; rfl
        · simp at e3
    · obtain ⟨B,_,q1,q2,q3,q4⟩:=at_ hk
      have hl':B.live = true:=by rw [<- q3]; exact hl
      have:=hh.none k B q1 hl' hb
      have hcs:=q4 hl'
      rw [this] at hcs
      simp [Qh] at hcs
      exact hcs
    · obtain ⟨D,_,q1,_,q3,_⟩:=at_ hi
      obtain ⟨D',_,q1',_,q3',_⟩:=at_ hj
      exact hh.inj i j D D' b q1 q1' (by rw [<- q3]; exact h1) (by rw [<- q3']; exact h2) h3 h4
    · obtain ⟨D,_,q1,_,q3,_⟩:=at_ hk
      exact hh.avoid k D b q1 (by rw [<- q3]; exact hl) hb
  · exact h.elim
def QfV:Nat->List DV->List (Nat × DV)
  | _,[]=>[]
  | i,d :: r=>(i,d) :: QfV (i + 1) r
theorem QgG {ds:List DV}:∀ {i t:Nat},look (QfV i ds) t = if i<=t then (ds[t - i]?).getD .any else .any:=by
  induction ds with
  | nil=>intro i t; simp [QfV,look]
  | cons d r ih =>
    intro i t
    simp only [QfV,look]
    split
    · rename_i h; subst h; simp
    · rename_i h
      rw [ih]
      by_cases h1:i + 1<=t
      · rw [if_pos h1,if_pos (by omega)]
        have:t - i = (t - (i + 1)) + 1:=by omega
        rw [this]; simp
      · rw [if_neg h1,if_neg (by omega)]
theorem QeG {P:Program} {g:FuncId} {args:List DV} {h:Qa} {R:DV->Qa->Prop} {fn:Func} {c:Code} (hf:P.funcs[g]? = some fn) (hb:fn.body = some c) (hname:(fn.name == "runtime.NumGoroutine") = false) (hn:args.length<=fn.ntmps)
    {post:Exit->St->Prop} (hp:∀ e S,post e S->(e = .normal\/e = .ret)/\∃ d,QD P S fn.results.toList = some d/\((h.length<=S.hp.length->Qtw h.length S.hp d R)\/R d S.hp)) (hc:VWp P c post ⟨fn.ntmps,h.length,QfV 0 args,h⟩):VCalls P g args h R:=by
  refine ⟨fun w β vs hh ha=>.inl ⟨fn,hf,hname,by rw [hb]; rfl,?_⟩⟩
  refine calls_of_wp hf hb ?_
  have hsz:vs.size = args.length:=ha.1.symm
  have hs:Sim ⟨w,β,h,[]⟩ β ⟨fn.ntmps,h.length,QfV 0 args,h⟩ { tmps:=vs ++ Array.replicate (fn.ntmps - vs.size) undef,defers:=[] } w:=by
    refine ⟨rfl,by simp; omega,fun t=>?_,hh,Evo.refl w β h,rfl⟩
    rw [QgG,if_pos (Nat.zero_le _),Nat.sub_zero]
    cases ht:args[t]? with
    | none=>exact .any _
    | some d =>
      have hlt:t < vs.size:=by rw [hsz]; exact (List.getElem?_eq_some_iff.1 ht).1
      have e:(vs ++ Array.replicate (fn.ntmps - vs.size) undef).getD t undef = vs.getD t undef:=by
        simp only [Array.getD_eq_getD_getElem?]; rw [Array.getElem?_append_left hlt]
      show RelD w β h d ((vs ++ Array.replicate (fn.ntmps - vs.size) undef).getD t undef)
      rw [e]
      exact ha.2 t d ht
  refine wp_mono (hc _ β _ w hs) fun e a' w' hq=>?_
  obtain ⟨β',S',hs',hq⟩:=hq
  obtain ⟨he,d,hr,hend⟩:=hp e S' hq
  obtain ⟨v,r1,r2⟩:=QbF hs' hr
  have hlen:h.length<=S'.hp.length:=hs'.evo.len
  have fin:∃ v' r h' β'',Ending.returned v = .returned v'/\Evo w β h w' β'' h'/\HeapRel w' β'' h'/\RelD w' β'' h' r v'/\R r h':=by
    rcases hend with hend | hend
    · obtain ⟨d',hp',k1,k2,k3,k4,k5⟩:=Qc1 hs'.heap hlen r2 (hend hlen)
      refine ⟨v,d',hp',β',rfl,?_,k3,k2,k1⟩
      have ev:=hs'.evo
      exact ⟨ev.os,ev.tape,ev.output,ev.size,by omega,ev.beta,ev.same,ev.shape,fun b hb hl=>ev.im b hb (k5 b hl),ev.X⟩
    · exact ⟨v,d,S'.hp,β',rfl,hs'.evo,hs'.heap,r2,hend⟩
  rcases he with rfl | rfl
  · exact ⟨hs'.defers,v,r1,fin⟩
  · exact ⟨hs'.defers,v,r1,fin⟩
theorem QjC {P:Program} {g:FuncId} {args:List DV} {h:Qa} {R:DV->Qa->Prop} {fn:Func} {c:Code} (hf:P.funcs[g]? = some fn) (hb:fn.body = some c) (hname:(fn.name == "runtime.NumGoroutine") = false) (hn:args.length<=fn.ntmps)
    {post:Exit->St->Prop} (hp:∀ e S,post e S->(e = .normal\/e = .ret)/\∃ d,QD P S fn.results.toList = some d/\((h.length<=S.hp.length->Qtw h.length S.hp d R)\/R d S.hp)) (hc:Qx P c post ⟨fn.ntmps,h.length,QfV 0 args,h⟩):VCalls P g args h R:=
  QeG hf hb hname hn hp (Qu c _ _ hc)
theorem Qlu {P:Program} {g:FuncId} {args:List DV} {h:Qa} {R:DV->Qa->Prop} {fn:Func} {c:Code} (hf:P.funcs[g]? = some fn) (hb:fn.body = some c) (hname:(fn.name == "runtime.NumGoroutine") = false) (hn:args.length<=fn.ntmps)
    (hc:Qx P c (Qcv P fn.results.toList h.length R) ⟨fn.ntmps,h.length,QfV 0 args,h⟩):VCalls P g args h R:=by
  refine QjC hf hb hname hn (fun e S hq=>?_) hc
  unfold Qcv at hq
  split at hq
  · split at hq
    · rename_i d hd; exact ⟨.inl rfl,d,hd,.inl fun _=>hq⟩
    · exact hq.elim
  · split at hq
    · rename_i d hd; exact ⟨.inr rfl,d,hd,.inl fun _=>hq⟩
    · exact hq.elim
  · exact hq.elim
theorem Qb9 {P:Program} {g:FuncId} {args:List DV} {h:Qa} {R:DV->Qa->Prop} {fn:Func} {c:Code} (hf:P.funcs[g]? = some fn) (hb:fn.body = some c) (hname:(fn.name == "runtime.NumGoroutine") = false) (hn:args.length<=fn.ntmps)
    (hc:Qx P c (Qap P fn.results.toList R) ⟨fn.ntmps,h.length,QfV 0 args,h⟩):VCalls P g args h R:=by
  refine QjC hf hb hname hn (fun e S hq=>?_) hc
  unfold Qap at hq
  split at hq
  · split at hq
    · rename_i d hd; exact ⟨.inl rfl,d,hd,.inr hq⟩
    · exact hq.elim
  · split at hq
    · rename_i d hd; exact ⟨.inr rfl,d,hd,.inr hq⟩
    · exact hq.elim
  · exact hq.elim
def QDa (tm:List (Nat × DV)):List (Nat × DV)->Prop
  | []=>True
  | (t,d) :: r=>look tm t = d/\QDa tm r
def QDq:Qa->Qa->Prop
  | _,[]=>True
  | B :: r,B' :: r'=>B' = B/\QDq r r'
  | [],_ :: _=>False
def Qqj (n:Nat):List (Nat × DV)->Prop
  | []=>True
  | (_,d) :: r=>d.refs n = true/\Qqj n r
def Qsj (n:Nat):Qa->Prop
  | []=>True
  | B :: r=>(B.live = true->DV.refs.go n B.cells = true)/\Qsj n r
def Le (S S':St):Prop:=S'.nt = S.nt/\S'.base = S.base/\S'.base<=S'.hp.length/\QDa S.tm S'.tm/\QDq S.hp S'.hp/\(S'.hp.length = S.hp.length\/(Qqj S'.hp.length S'.tm/\Qsj S'.hp.length S'.hp))
theorem Qgc {tm:List (Nat × DV)}:∀ {tm':List (Nat × DV)},QDa tm tm'->∀ t,look tm' t = look tm t\/look tm' t = .any
  | [],_,t=>.inr rfl
  | (a,d) :: r,h,t=>by
    simp only [look]
    split
    · rename_i e; subst e; exact .inl h.1.symm
    · exact Qgc h.2 t
theorem Qno:∀ {hp hp':Qa},QDq hp hp'->hp'.length<=hp.length/\∀ (k:Nat) (B:Blk),hp'[k]? = some B->hp[k]? = some B
  | hp,[],_=>⟨Nat.zero_le _,by simp⟩
  | B :: r,B' :: r',h=>by
    obtain ⟨h1,h2⟩:=Qno h.2
    refine ⟨by simpa using h1,fun k D hk=>?_⟩
    cases k with
    | zero=>simp at hk |-; rw [<- hk]; exact h.1.symm
    | succ k=>simpa using h2 k D (by simpa using hk)
  | [],_ :: _,h=>h.elim
theorem Qgb {n:Nat}:∀ {tm:List (Nat × DV)},Qqj n tm->∀ t,(look tm t).refs n = true
  | [],_,t=>rfl
  | (a,d) :: r,h,t=>by
    simp only [look]
    split
    · exact h.1
    · exact Qgb h.2 t
theorem Qh4 {n:Nat}:∀ {hp:Qa},Qsj n hp->∀ (k:Nat) (B:Blk),hp[k]? = some B->B.live = true->DV.refs.go n B.cells = true
  | [],_,k,B,h,_=>by simp at h
  | D :: r,h,0,B,hk,hl=>by simp at hk; subst hk; exact h.1 hl
  | D :: r,h,k + 1,B,hk,hl=>Qh4 h.2 k B (by simpa using hk) hl
theorem Sim.le {O:Org} {β:Map} {S S':St} {a:Act} {w:World} (h:Sim O β S a w) (hle:Le S S'):Sim O β S' a w:=by
  obtain ⟨h1,hb1,hb2,h2,h3,h4⟩:=hle
  have hO:O.hp.length<=S'.hp.length:=by rw [h.base,<- hb1]; exact hb2
  obtain ⟨hl,hg⟩:=Qno h3
  have hsub:∀ b,live β S'.hp b->live β S.hp b:=fun b ⟨k,B,k1,k2,k3⟩=>⟨k,B,hg k B k1,k2,k3⟩
  have him:∀ b,img β S'.hp b->img β S.hp b:=fun b hb=>hb.imp id (hsub b)
  rcases h4 with h4 | ⟨h4,h5⟩
  · have heq:S'.hp = S.hp:=by
      apply List.ext_getElem?
      intro k
      by_cases hk:k < S'.hp.length
      · rw [List.getElem?_eq_getElem hk]; exact (hg k _ (List.getElem?_eq_getElem hk)).symm
      · rw [List.getElem?_eq_none (by omega),List.getElem?_eq_none (by omega)]
    refine ⟨h.defers,by rw [h1]; exact h.size,fun t=>?_,by rw [heq]; exact h.heap,by rw [heq]; exact h.evo,h.base.trans hb1.symm⟩
    rw [heq]
    rcases Qgc h2 t with e | e
    · rw [e]; exact h.tm t
    · rw [e]; exact .any _
  · refine ⟨h.defers,by rw [h1]; exact h.size,fun t=>?_,?_,?_,h.base.trans hb1.symm⟩
    · have hr:=Qgb h4 t
      rcases Qgc h2 t with e | e
      · rw [e] at hr |-; exact (h.tm t).drop hr him
      · rw [e]; exact .any _
    · have hh:=h.heap
      refine ⟨fun k B b k1 k2 k3=>?_,fun k B k1 k2 k3=>hh.none k B (hg k B k1) k2 k3,fun i j B B' b i1 j1 i2 j2=>hh.inj i j B B' b (hg i B i1) (hg j B' j1) i2 j2,fun k B b k1=>hh.avoid k B b (hg k B k1),hh.bound⟩
      obtain ⟨C,c1,c2,c3⟩:=hh.blk k B b (hg k B k1) k2 k3
      exact ⟨C,c1,c2,fun i d hd=>⟨(c3 i d hd).1,(c3 i d hd).2.drop (DV.refs_go (Qh4 h5 k B k1 k2) i d hd) him⟩⟩
    · have ev:=h.evo
      exact ⟨ev.os,ev.tape,ev.output,ev.size,hO,ev.beta,ev.same,ev.shape,fun b hb hl=>ev.im b hb (hsub b hl),ev.X⟩
theorem VWp.le {P:Program} {c:Code} {Q:Exit->St->Prop} {S S':St} (h:VWp P c Q S') (hle:Le S S'):VWp P c Q S:=fun O β a w hs=>h O β a w (hs.le hle)
theorem VWp.mono {P:Program} {c:Code} {Q Q':Exit->St->Prop} {S:St} (h:VWp P c Q S) (hq:∀ e S,Q e S->Q' e S):VWp P c Q' S:=
  fun O β a w hs=>wp_mono (h O β a w hs) fun e _ _ ⟨β',S',k,q⟩=>⟨β',S',k,hq e S' q⟩
theorem QxA {P:Program} {c:Code} {Q:Exit->St->Prop} {S:St} {ι:Type} (I:ι->St) (μ:ι->Nat) (i₀:ι) (h₀:Le S (I i₀))
    (round:∀ i,Qx P c (Qab Q fun S'=>∃ j,μ j < μ i/\Le S' (I j)) (I i)):VLoop P c Q S:=by
  intro O β a w hs b k cs
  have key:∀ n β i a w,μ i = n->Sim O β (I i) a w ->
      ∃ e a' w',Qkz O Q e a' w'/\Arrives P (lone (b.at a (.code c :: .inLoop c :: k)) cs w) b k cs e a' w':=by
    intro n
    induction n using Nat.strongRecOn with
    | _ n ih =>
      intro β i a w hn hs
      obtain ⟨e,a₁,w₁,hq,harr⟩:=Qu c _ _ (round i) O β a w hs b (.inLoop c :: k) cs
      obtain ⟨β₁,S₁,hs₁,hq⟩:=hq
      cases e with
      | normal =>
        obtain ⟨j,hlt,hle⟩:=hq
        obtain ⟨e₂,a₂,w₂,hq₂,harr₂⟩:=ih (μ j) (hn ▸ hlt) β₁ j a₁ w₁ rfl (hs₁.le hle)
        exact ⟨e₂,a₂,w₂,hq₂,.of_steps (Steps.trans harr (.one step_inLoop)) harr₂⟩
      | exit id=>exact ⟨_,a₁,w₁,⟨β₁,S₁,hs₁,hq⟩,.pass (x:=.inLoop c) rfl (fun _ _=>.inl (by simp)) harr⟩
      | goto l=>exact ⟨_,a₁,w₁,⟨β₁,S₁,hs₁,hq⟩,.pass (x:=.inLoop c) rfl (fun _ _=>.inl (by simp)) harr⟩
      | ret=>exact ⟨_,a₁,w₁,⟨β₁,S₁,hs₁,hq⟩,.pass (x:=.inLoop c) rfl (fun _ _=>.inl (by simp)) harr⟩
      | panic ch=>exact ⟨_,a₁,w₁,⟨β₁,S₁,hs₁,hq⟩,.pass (x:=.inLoop c) rfl (fun _ _=>.inl (by simp)) harr⟩
      | outgrown=>exact ⟨_,a₁,w₁,⟨β₁,S₁,hs₁,hq⟩,.pass (x:=.inLoop c) rfl (fun _ _=>.inl (by simp)) harr⟩
  obtain ⟨e,a',w',hq,harr⟩:=key _ β i₀ a w rfl (hs.le h₀)
  exact ⟨e,a',w',hq,.of_steps (.one step_loop) harr⟩
def DV.ren (σ:Nat->Nat):DV->DV
  | .ptr k off=>.ptr (σ k) off
  | .own k sz off len=>.own (σ k) sz off len
  | .ownc k sz off len cap=>.ownc (σ k) sz off len cap
  | .pv p=>.pv p
  | .ip cs=>.ip cs
  | .any=>.any
  | .agg cs=>.agg (go σ cs)
  | .tup cs=>.tup (go σ cs)
  | .fn f a b=>.fn f (go σ a) (go σ b)
  | .opt c d=>.opt c (d.ren σ)
where
  go (σ:Nat->Nat):List DV->List DV
    | []=>[]
    | d :: r=>d.ren σ :: go σ r
def DV.nums (p:Nat->Bool):DV->Bool
  | .ptr k _ | .own k _ _ _ | .ownc k _ _ _ _=>p k
  | .pv _ | .ip _ | .any=>true
  | .agg cs | .tup cs=>go p cs
  | .fn _ a b=>go p a && go p b
  | .opt _ d=>d.nums p
where
  go (p:Nat->Bool):List DV->Bool
    | []=>true
    | d :: r=>d.nums p && go p r
theorem DV.nums_go {p:Nat->Bool} {ds:List DV} (h:DV.nums.go p ds = true):∀ (i:Nat) (d:DV),ds[i]? = some d->d.nums p = true:=by
  induction ds with
  | nil=>intro i d h; simp at h
  | cons x r ih =>
    simp only [DV.nums.go,Bool.and_eq_true] at h
    intro i d hd
    cases i with
    | zero=>simp at hd; subst hd; exact h.1
    | succ i=>exact ih h.2 i d (by simpa using hd)
theorem DV.ren_go (σ:Nat->Nat) (ds:List DV):DV.ren.go σ ds = ds.map (DV.ren σ):=by
  induction ds with
  | nil=>rfl
  | cons x r ih=>simp [DV.ren.go,ih]
theorem RelD.ren {w:World} {β β':Map} {hp hp':Qa} {σ:Nat->Nat} {p:Nat->Bool} (hσ:∀ k,p k = true->k < hp.length->σ k < hp'.length/\β'.f (σ k) = β.f k) (him:∀ b,img β' hp' b->img β hp b)
    {d:DV} {v:Value} (h:RelD w β hp d v) (hr:d.nums p = true):RelD w β' hp' (d.ren σ) v:=by
  induction h with
  | pv q v h=>exact .pv q v (h.mono (Nat.le_refl _) (fun _ _ _=>rfl) (fun b _=>him b))
  | ptr k off b h hb =>
    obtain ⟨h1,h2⟩:=hσ k (by simpa [DV.nums] using hr) h
    exact .ptr _ off b h1 (h2.trans hb)
  | own k sz off len cap b C T m h hb h1 h2 h3 h4 =>
    obtain ⟨g1,g2⟩:=hσ k (by simpa [DV.nums] using hr) h
    exact .own _ sz off len cap b C T m g1 (g2.trans hb) h1 h2 h3 h4
  | ownc k sz off len cap b o C T m h hb h1 h2 h3 h4 h5 =>
    obtain ⟨g1,g2⟩:=hσ k (by simpa [DV.nums] using hr) h
    exact .ownc _ sz off len cap b o C T m g1 (g2.trans hb) h1 h2 h3 h4 h5
  | own0 k sz a h hb ha =>
    obtain ⟨g1,g2⟩:=hσ k (by simpa [DV.nums] using hr) h
    exact .own0 _ sz a g1 (g2.trans hb) ha
  | ip cs ad val h1 h2 h3 =>
    exact .ip cs ad val h1 (fun j d hd=>⟨(h2 j d hd).1,fun x=>(h2 j d hd).2.1 (him _ x),(h2 j d hd).2.2⟩) (fun j d hd=>(h3 j d hd).mono (Nat.le_refl _) (fun _ _ _=>rfl) (fun b _=>him b))
  | agg ds vs h _ ih =>
    simp only [DV.ren,DV.ren_go]
    have hr':DV.nums.go p ds = true:=by simpa [DV.nums] using hr
    refine .agg _ vs (by simpa using h) (fun i d hd=>?_)
    rw [List.getElem?_map] at hd
    cases hx:ds[i]? with
    | none=>simp [hx] at hd
    | some x=>simp [hx] at hd; subst hd; exact ih i x hx (DV.nums_go hr' i x hx)
  | tup ds vs h _ ih =>
    simp only [DV.ren,DV.ren_go]
    have hr':DV.nums.go p ds = true:=by simpa [DV.nums] using hr
    refine .tup _ vs (by simpa using h) (fun i d hd=>?_)
    rw [List.getElem?_map] at hd
    cases hx:ds[i]? with
    | none=>simp [hx] at hd
    | some x=>simp [hx] at hd; subst hd; exact ih i x hx (DV.nums_go hr' i x hx)
  | fn f ds es vs us h h' _ _ ih ih' =>
    simp only [DV.ren,DV.ren_go]
    have hr':DV.nums.go p ds = true/\DV.nums.go p es = true:=by simpa [DV.nums] using hr
    refine .fn f _ _ vs us (by simpa using h) (by simpa using h') (fun i d hd=>?_) (fun i d hd=>?_)
    · rw [List.getElem?_map] at hd
      cases hx:ds[i]? with
      | none=>simp [hx] at hd
      | some x=>simp [hx] at hd; subst hd; exact ih i x hx (DV.nums_go hr'.1 i x hx)
    · rw [List.getElem?_map] at hd
      cases hx:es[i]? with
      | none=>simp [hx] at hd
      | some x=>simp [hx] at hd; subst hd; exact ih' i x hx (DV.nums_go hr'.2 i x hx)
  | opt c d v _ hf ih=>exact .opt c _ v (fun hc=>ih hc (by simpa [DV.nums] using hr)) hf
  | any v=>exact .any v
theorem VCalls.pure {P:Program} {g:FuncId} {args:List DV} {hp:Qa} {R:DV->Prop} (c:VCalls P g args [] fun r h'=>h' = []/\r.nums (fun _=>false) = true/\R r)
    (ha:DV.nums.go (fun _=>false) args = true):VCalls P g args hp fun r h'=>h' = hp/\R r:=by
  refine ⟨fun w β vs hh hr=>?_⟩
  have hsame:∀ (σ:Nat->Nat),(fun _:Nat=>false) = fun _=>false:=fun _=>rfl
  have Qe9:∀ {w:World} {β β':Map} {hp hp':Qa} {d:DV} {v:Value},RelD w β hp d v->d.nums (fun _=>false) = true->(∀ b,img β' hp' b->img β hp b)->RelD w β' hp' d v:=by
    intro w β β' hp hp' d v h hn him
    induction h with
    | pv q v h=>exact .pv q v (h.mono (Nat.le_refl _) (fun _ _ _=>rfl) (fun b _=>him b))
    | ptr k off b h hb=>simp [DV.nums] at hn
    | own=>simp [DV.nums] at hn
    | own0=>simp [DV.nums] at hn
    | ownc=>simp [DV.nums] at hn
    | ip cs ad val h1 h2 h3 =>
      exact .ip cs ad val h1 (fun j d hd=>⟨(h2 j d hd).1,fun x=>(h2 j d hd).2.1 (him _ x),(h2 j d hd).2.2⟩) (fun j d hd=>(h3 j d hd).mono (Nat.le_refl _) (fun _ _ _=>rfl) (fun b _=>him b))
    | agg ds vs h _ ih=>exact .agg _ vs h (fun i d hd=>ih i d hd (DV.nums_go (by simpa [DV.nums] using hn) i d hd))
    | tup ds vs h _ ih=>exact .tup _ vs h (fun i d hd=>ih i d hd (DV.nums_go (by simpa [DV.nums] using hn) i d hd))
    | fn f ds es vs us h h' _ _ ih ih' =>
      have hr':DV.nums.go (fun _=>false) ds = true/\DV.nums.go (fun _=>false) es = true:=by simpa [DV.nums] using hn
      exact .fn f _ _ vs us h h' (fun i d hd=>ih i d hd (DV.nums_go hr'.1 i d hd)) (fun i d hd=>ih' i d hd (DV.nums_go hr'.2 i d hd))
    | opt c d v _ hf ih=>exact .opt c _ v (fun hc=>ih hc (by simpa [DV.nums] using hn)) hf
    | any v=>exact .any v
  let βc:Map:=⟨β.f,img β hp⟩
  have himc:∀ b,img βc [] b->img β hp b:=fun b hb=>by
    rcases hb with hb | ⟨k,B,h1,_⟩
    · exact hb
    · simp at h1
  have hhc:HeapRel w βc []:=⟨by simp,by simp,by simp,by simp,fun b hb=>by
    rcases hb with hb | hb
    · exact hh.bound b hb
    · exact QbK hh hb⟩
  refine (c.run w βc vs hhc ⟨hr.1,fun i d hd=>Qe9 (hr.2 i d hd) (DV.nums_go ha i d hd) himc⟩).mono ?_
  rintro e w' ⟨v,r,h',β',rfl,ev,hh',hrel,rfl,hn,hR⟩
  have heap_same:∀ b,b < w.heap.size->w'.heap[b]? = w.heap[b]?:=fun b hb=>ev.same b hb (by rintro ⟨k,B,h1,_⟩; simp at h1)
  have e:Evo w β hp w' β hp:=⟨ev.os,ev.tape,ev.output,ev.size,Nat.le_refl _,fun _ _=>rfl,fun b hb _=>heap_same b hb,fun b C T m h=>⟨C,m,by rw [heap_same b (Array.getElem?_eq_some_iff.1 h).1]; exact h,rfl⟩,fun _ _ h=>h,rfl⟩
  have him':∀ b,img β hp b->img β' [] b:=fun b hb=>.inl (by rw [ev.X]; exact hb)
  refine ⟨v,r,hp,β,rfl,e,?_,Qe9 hrel hn him',rfl,hR⟩
  refine ⟨fun k B b h1 h2 h3=>?_,hh.none,hh.inj,hh.avoid,fun b hb=>Nat.lt_of_lt_of_le (hh.bound b hb) ev.size⟩
  obtain ⟨C,g1,g2,g3⟩:=hh.blk k B b h1 h2 h3
  exact ⟨C,by rw [heap_same b (Array.getElem?_eq_some_iff.1 g1).1]; exact g1,g2,fun i d hd=>⟨(g3 i d hd).1,(g3 i d hd).2.mono e⟩⟩
end Go.V
namespace Go.V
end Go.V
namespace Go.V
theorem Qlg {n:Int} (h : -9223372036854775808<=n/\n<=9223372036854775807):IntKind.i64.wrap n = n:=by rw [IntKind.wrap_i64]; omega
theorem QnE {n:Int} (h:0<=n/\n<=255):IntKind.u8.wrap n = n:=by rw [IntKind.wrap_u8]; omega
theorem QDu {p:Prop} [Decidable p] (h:p):decide p = true:=decide_eq_true h
theorem QDv {p:Prop} [Decidable p] (h:¬ p):decide p = false:=decide_eq_false h
theorem Qsa {a b:Int} (h:a = b):(a == b) = true:=by simp [h]
theorem Qsb {a b:Int} (h:¬ a = b):(a == b) = false:=by simp [h]
theorem Qr8 {a b:Int} (h:¬ a = b):(a != b) = true:=by simp [h]
theorem Qr9 {a b:Int} (h:a = b):(a != b) = false:=by simp [h]
theorem Qz4 (b:Bool):(b == true) = b:=by cases b<;>rfl
theorem Qz5 (b:Bool):(b == false) = !b:=by cases b<;>rfl
end Go.V
namespace Go.V
def Q6:Op->Bool
  | .move _ | .assign _ | .pick .. | .load .. | .store .. | .nilCheck _ | .binOp .. | .unOp .. | .convert .. | .makeFunc .. | .slice .. | .fieldAddr .. | .field .. | .indexAddr .. | .index .. | .extract .. | .build ..=>true
  | .call c=>match c.callee with
    | .builtin .len | .builtin .min | .builtin .max | .builtin .cap | .builtin .unsafeSliceData=>true
    | _=>false
  | _=>false
def QbM (ev:Operand->DV):Op->List Nat × Bool
  | .load _ a=>(match ev a with | .ptr k _=>[k] | _=>[],false)
  | .store _ a _=>(match ev a with | .ptr k _=>[k] | _=>[],true)
  | .convert _ _ x=>(match ev x with | .own k _ _ _=>[k] | .ptr k _=>[k] | _=>[],false)
  | .slice _ x _ _ _=>(match ev x with | .ptr k _=>[k] | _=>[],false)
  | _=>([],false)
theorem Qlp {P:Program} {hp hp':Qa} {T:TypeId} {a:DV} (hf:∀ k off,a = .ptr k off->hp'[k]? = hp[k]?):QdX P hp' T a = QdX P hp T a:=by
  cases a with
  | ptr k off =>
    have:Qf hp' k = Qf hp k:=by simp [Qf,hf k off rfl]
    simp only [QdX,this]
  | _=>rfl
theorem QnG {hp hp':Qa} {sz:Nat} {x:DV} (hf:∀ k a b c,x = .own k a b c->hp'[k]? = hp[k]?):Qlk hp' sz x = Qlk hp sz x:=by
  unfold Qlk
  split
  · rename_i k a b c
    have:Qf hp' k = Qf hp k:=by simp [Qf,hf k a b c rfl]
    rw [this]
  all_goals rfl
theorem Qf4 {P:Program} {ev ev':Operand->DV} {hp:Qa} {o:Op} (hk:Q6 o = true) (hev:∀ x ∈ o.operands.toList,ev' x = ev x):vop P ev' hp o = vop P ev hp o:=by
  have mp:∀ (ps:Array (Nat × Operand)),(∀ x ∈ (ps.toList.map (·.2)).toArray.toList,ev' x = ev x)->parts ev' ps = parts ev ps:=fun ps hps=>by
    unfold parts
    exact List.map_congr_left fun p hp=>by rw [hps p.2 (by simp; exact ⟨p.1,by simpa using hp⟩)]
  have ml:∀ (xs:Array Operand),(∀ x ∈ xs.toList,ev' x = ev x)->xs.toList.map ev' = xs.toList.map ev:=fun xs hxs=>List.map_congr_left hxs
  have mo:∀ (x:Option Operand),(∀ y ∈ x.toArray.toList,ev' y = ev y)->x.map ev' = x.map ev:=fun x hx=>by cases x<;>simp_all
  cases o with
  | build T ps=>simp only [vop,mp ps (by simpa [Op.operands] using hev)]
  | makeFunc f xs ys =>
    have h1:=ml xs (fun x hx=>hev x (by simp [Op.operands]; left; simpa using hx))
    have h2:=ml ys (fun x hx=>hev x (by simp [Op.operands]; right; simpa using hx))
    simp only [vop,h1,h2]
  | call c =>
    have h1:c.args.toList.map ev' = c.args.toList.map ev:=ml c.args (fun x hx=>hev x (by simp [Op.operands,Call.operands]; right; simpa using hx))
    simp only [vop,h1]
  | slice T x lo hi mx =>
    have h0:=hev x (by simp [Op.operands])
    have h1:=mo lo (fun y hy=>hev y (by simp [Op.operands] at hy |-; simp [hy]))
    have h2:=mo hi (fun y hy=>hev y (by simp [Op.operands] at hy |-; simp [hy]))
    have h3:=mo mx (fun y hy=>hev y (by simp [Op.operands] at hy |-; simp [hy]))
    simp only [vop,h0,h1,h2,h3]
  | _=>first
    | (simp [Q6] at hk; done)
    | (simp [Op.operands] at hev; simp [vop,hev]; done)
theorem Qik {P:Program} {hp hp':Qa} {T:TypeId} {a:DV} {lo hi mx:Option DV} (hf:∀ k off,a = .ptr k off->hp'[k]? = hp[k]?):Qct P hp' T a lo hi mx = Qct P hp T a lo hi mx:=by
  unfold Qct
  split
  · rename_i k off
    have:Qf hp' k = Qf hp k:=by simp [Qf,hf k off rfl]
    simp only [Qf0,this]
  · rfl
theorem Qcw {P:Program} {ev:Operand->DV} {hp hp' h1:Qa} {o:Op} {d:DV} (hk:Q6 o = true) (hf:∀ k ∈ (QbM ev o).1,hp'[k]? = hp[k]?) (h:vop P ev hp o = some (d,h1)) :
    ((QbM ev o).2 = false/\h1 = hp/\vop P ev hp' o = some (d,hp')) \/
    ((QbM ev o).2 = true/\∃ k cs,(QbM ev o).1 = [k]/\h1 = Qp hp k cs/\vop P ev hp' o = some (d,Qp hp' k cs)):=by
  have fin:∀ {x:Option DV},x.map (fun d=>(d,hp)) = some (d,h1)->h1 = hp/\x.map (fun d=>(d,hp')) = some (d,hp'):=fun {x} hx=>by
    obtain ⟨d',e1,e2⟩:=Qy hx
    simp at e2
    exact ⟨e2.2.symm,by simp [e1,e2.1]⟩
  cases o with
  | store T a x =>
    refine .inr ⟨rfl,?_⟩
    simp only [vop] at h |-
    obtain ⟨h2,e1,e2⟩:=Qy h
    simp at e2
    obtain ⟨rfl,rfl⟩:=e2
    cases ha:ev a with
    | ptr k off =>
      rw [ha] at e1
      have hfk:=hf k (by simp [QbM,ha])
      have hb:Qf hp' k = Qf hp k:=by simp [Qf,hfk]
      refine ⟨k,?_⟩
      simp only [QbM,ha,Qe5,hb] at e1 |-
      split at e1
      · rename_i cs q1 q2
        split at e1
        · rename_i hc; simp at e1; exact ⟨_,trivial,e1.symm,by simp [hc]⟩
        · simp at e1
      · rename_i cs n q1 q2
        split at e1
        · rename_i ds hds
          split at e1
          · rename_i hc; simp at e1; exact ⟨_,trivial,e1.symm,by simp [hc]⟩
          · simp at e1
        · simp at e1
      · simp at e1
    | _=>rw [ha] at e1; simp [Qe5] at e1
  | load T a =>
    simp only [vop] at h |-
    rw [Qlp (hp':=hp') (fun k off hko=>hf k (by simp [QbM,hko]))]
    exact .inl ⟨rfl,fin h⟩
  | slice T x lo hi mx =>
    simp only [vop] at h |-
    rw [Qik (hp':=hp') (fun k off hko=>hf k (by simp [QbM,hko]))]
    exact .inl ⟨rfl,fin h⟩
  | convert S T x =>
    have hsr:Qwg hp' (ev x) = Qwg hp (ev x):=by
      have:=QnG (hp:=hp) (hp':=hp') (sz:=1) (x:=ev x) fun k a b c hk=>hf k (by simp [QbM,hk])
      unfold Qwg
      split
      · rfl
      · exact this
    have hcp:∀ k off,ev x = .ptr k off->Qc3 P hp' S T k off = Qc3 P hp S T k off:=fun k off hk=>by
      have hfk:=hf k (by simp [QbM,hk])
      unfold Qc3
      rw [hfk]
    simp only [vop,Qls] at h |-
    split at h
    · rename_i k off hk
      rw [<- hcp k off hk] at h
      exact .inl ⟨rfl,fin h⟩
    · simp only [Qa3,hsr] at h |-
      exact .inl ⟨rfl,fin h⟩
  | call c =>
    refine .inl ⟨rfl,?_⟩
    simp only [Q6] at hk
    simp only [vop] at h |-
    split at h
    · rename_i b hb
      rw [hb] at hk
      unfold QaK at h |-
      split at h<;>first
        | (exact fin h)
        | (simp at hk; done)
        | (simp at h; done)
    · simp at h
  | move x | assign x=>simp only [vop] at h |-; simp at h; exact .inl ⟨rfl,h.2.symm,by simp [h.1]⟩
  | makeFunc f a b=>simp only [vop] at h |-; simp at h; exact .inl ⟨rfl,h.2.symm,by simp [h.1]⟩
  | pick c a b =>
    simp only [vop] at h |-
    refine .inl ⟨rfl,?_⟩
    split at h
    · rename_i t ht; simp at h; exact ⟨h.2.symm,by simp [h.1]⟩
    · simp at h
  | nilCheck x =>
    simp only [vop] at h |-
    refine .inl ⟨rfl,?_⟩
    split at h
    · simp at h; exact ⟨h.2.symm,by simp [h.1]⟩
    · simp at h; exact ⟨h.2.symm,by simp [h.1]⟩
    · simp at h
  | _=>first
    | (simp [Q6] at hk; done)
    | (simp only [vop] at h |-; exact .inl ⟨rfl,fin h⟩)
def QR (after:Array Edge) (f:List Nat × Bool):Nat->List (List Nat × Bool)->Bool
  | _,[]=>true
  | i,g :: r=>(!((g.2 || f.2) && g.1.any fun k=>f.1.contains k) || after.toList.any fun e=>Region.binds .any e && e.on == i) && QR after f (i + 1) r
def vdr (P:Program) (all:List Oper):List Oper->List (List Nat × Bool)->(St->Prop)->St->Prop
  | [],_,K,S=>K S
  | o :: r, fs,K,S =>
    S.fits o.dst = true /\
    match QA all S o with
    | none=>False
    | some false=>vdr P all r (fs ++ [([],false)]) K (S.put o.dst (.tup []))
    | some true =>
      match Ql (fun x=>Qm true (S.ev x)) o.op with
      | some (g,args)=>∃ d,(VCalls P g args [] fun r h=>h = []/\r = d)/\DV.nums.go (fun _=>false) args = true/\d.nums (fun _=>false) = true/\vdr P all r (fs ++ [([],false)]) K (S.put o.dst (Qcn o.guard true d))
      | none =>
        match vop P (fun x=>Qm true (S.ev x)) S.hp o.op with
        | some (d,hp')=>Q6 o.op = true/\QR o.after (QbM (fun x=>Qm true (S.ev x)) o.op) 0 fs = true /\
            vdr P all r (fs ++ [QbM (fun x=>Qm true (S.ev x)) o.op]) K ((S.at hp').put o.dst (Qcn o.guard true d))
        | none=>False
def Qla (P:Program) (all:List Oper) (S:St) (o:Oper) (S':St) (f:List Nat × Bool):Prop :=
  S.fits o.dst = true/\∃ G,QA all S o = some G /\
    ((∃ g args d,Ql (fun x=>Qm G (S.ev x)) o.op = some (g,args)/\(G = true->VCalls P g args [] fun r h=>h = []/\r = d)/\DV.nums.go (fun _=>false) args = true/\d.nums (fun _=>false) = true/\S' = S.put o.dst (Qcn o.guard G d)/\f = ([],false)) \/
     (∃ d hp',Ql (fun x=>Qm G (S.ev x)) o.op = none/\vop P (fun x=>Qm G (S.ev x)) S.hp o.op = some (d,hp')/\Q6 o.op = true/\S' = (S.at (bif G then hp' else S.hp)).put o.dst (Qcn o.guard G d)/\f = QbM (fun x=>Qm G (S.ev x)) o.op) \/
     (G = false/\S' = S.put o.dst (.tup [])/\f = ([],false)))
def Qpm (f g:List Nat × Bool):Prop:=(g.2 = true\/f.2 = true)/\∃ k,k ∈ g.1/\k ∈ f.1
theorem QgA {after:Array Edge} {f:List Nat × Bool}:∀ {fs:List (List Nat × Bool)} {n:Nat},QR after f n fs = true->∀ (i:Nat) (g:List Nat × Bool),fs[i]? = some g->Qpm f g->∃ e ∈ after,Region.binds .any e = true/\e.on = n + i
  | [],n,_,i,g,h,_=>by simp at h
  | g0 :: r,n,hok,i,g,h,hc=>by
    simp only [QR,Bool.and_eq_true] at hok
    cases i with
    | zero =>
      simp at h
      subst h
      obtain ⟨h1,k,h2,h3⟩:=hc
      have hand:((g0.2 || f.2) && g0.1.any fun k=>f.1.contains k) = true:=by
        simp only [Bool.and_eq_true,Bool.or_eq_true,List.any_eq_true,List.contains_iff_mem]
        exact ⟨h1,k,h2,h3⟩
      have:=hok.1
      rw [hand] at this
      simp only [Bool.not_true,Bool.false_or,List.any_eq_true,Bool.and_eq_true,beq_iff_eq] at this
      obtain ⟨e,e1,e2,e3⟩:=this
      exact ⟨e,by simpa using e1,e2,by omega⟩
    | succ i =>
      obtain ⟨e,e1,e2,e3⟩:=QgA hok.2 i g (by simpa using h) hc
      exact ⟨e,e1,e2,by omega⟩
theorem Qcy {P:Program} {all:List Oper} {K:St->Prop}:∀ (rest pre:List Oper) (fs:List (List Nat × Bool)) (S:St),all = pre ++ rest->fs.length = pre.length->vdr P all rest fs K S ->
    ∃ (T:Nat->St) (F:Nat->List Nat × Bool),(∀ i f,fs[i]? = some f->F i = f)/\T pre.length = S/\K (T all.length) /\
      ∀ j,pre.length<=j->j < all.length->∃ o,all[j]? = some o/\Qla P all (T j) o (T (j + 1)) (F j)/\∀ i,i < j->Qpm (F j) (F i)->∃ e ∈ o.after,Region.binds .any e = true/\e.on = i
  | [],pre,fs,S,hall,hfs,h=>by
    refine ⟨fun _=>S,fun i=>fs.getD i ([],false),fun i f hf=>by simp [List.getD_eq_getElem?_getD,hf],rfl,h,fun j h1 h2=>?_⟩
    subst hall
    simp at h2
    omega
  | o :: r, pre,fs,S,hall,hfs,h=>by
    have hlt:pre.length < all.length:=by rw [hall]; simp
    have hat:all[pre.length]? = some o:=by rw [hall]; simp
    unfold vdr at h
    obtain ⟨hf,h⟩:=h
    have go : ∀ (S1:St) (f:List Nat × Bool),vdr P all r (fs ++ [f]) K S1->Qla P all S o S1 f->(∀ i,i < pre.length->∀ g,fs[i]? = some g->Qpm f g->∃ e ∈ o.after,Region.binds .any e = true/\e.on = i) ->
        ∃ (T:Nat->St) (F:Nat->List Nat × Bool),(∀ i f,fs[i]? = some f->F i = f)/\T pre.length = S/\K (T all.length) /\
          ∀ j,pre.length<=j->j < all.length->∃ o,all[j]? = some o/\Qla P all (T j) o (T (j + 1)) (F j)/\∀ i,i < j->Qpm (F j) (F i)->∃ e ∈ o.after,Region.binds .any e = true/\e.on = i:=by
      intro S1 f hr hstep hcl
      obtain ⟨T,F,h1,h2,h3,h4⟩:=Qcy r (pre ++ [o]) (fs ++ [f]) S1 (by rw [hall]; simp) (by simp [hfs]) hr
      simp only [List.length_append,List.length_singleton] at h2 h4
      have hF:F pre.length = f:=h1 _ f (by rw [<- hfs]; simp)
      have hFs:∀ i g,fs[i]? = some g->F i = g:=fun i g hg=>h1 i g (by rw [List.getElem?_append_left (List.getElem?_eq_some_iff.1 hg).1]; exact hg)
      refine ⟨fun j=>if j = pre.length then S else T j,F,hFs,by simp,?_,fun j g1 g2=>?_⟩
      · show K (if all.length = pre.length then S else T all.length)
        rw [if_neg (by omega)]
        exact h3
      · by_cases hj:j = pre.length
        · subst hj
          refine ⟨o,hat,?_,fun i hi hc=>?_⟩
          · show Qla P all (if pre.length = pre.length then S else T pre.length) o (if pre.length + 1 = pre.length then S else T (pre.length + 1)) (F pre.length)
            rw [if_pos rfl,if_neg (by omega),h2,hF]
            exact hstep
          · have hi':i < fs.length:=by omega
            rw [hF,hFs i _ (List.getElem?_eq_getElem hi')] at hc
            exact hcl i hi _ (List.getElem?_eq_getElem hi') hc
        · obtain ⟨o',e1,e2,e3⟩:=h4 j (by omega) g2
          refine ⟨o',e1,?_,e3⟩
          show Qla P all (if j = pre.length then S else T j) o' (if j + 1 = pre.length then S else T (j + 1)) (F j)
          rw [if_neg hj,if_neg (by omega)]
          exact e2
    have nocl:∀ g:List Nat × Bool,¬ Qpm ([],false) g:=fun g ⟨_,k,_,hk⟩=>by simp at hk
    split at h
    · exact h.elim
    · rename_i hg
      exact go _ _ h ⟨hf,false,hg,.inr (.inr ⟨rfl,rfl,rfl⟩)⟩ (fun i _ g _ hcl=>absurd hcl (nocl g))
    · rename_i hg
      split at h
      · rename_i g args hc
        obtain ⟨d,k1,k2,k3,k4⟩:=h
        exact go _ _ k4 ⟨hf,true,hg,.inl ⟨g,args,d,hc,fun _=>k1,k2,k3,rfl,rfl⟩⟩ (fun i _ g _ hcl=>absurd hcl (nocl g))
      · rename_i hc
        split at h
        · rename_i d hp' hv
          obtain ⟨k1,k2,k3⟩:=h
          refine go _ _ k3 ⟨hf,true,hg,.inr (.inl ⟨d,hp',hc,hv,k1,rfl,rfl⟩)⟩ (fun i _ g hg' hcl=>?_)
          obtain ⟨e,e1,e2,e3⟩:=QgA k2 i g hg' hcl
          exact ⟨e,e1,e2,by omega⟩
        · exact h.elim
def Qdw (ops:Array Oper):Bool :=
  (List.range ops.size).all fun j=>
    match ops[j]? with
    | none=>true
    | some oj=>(oj.after.toList.all fun e=>!Region.binds .any e || decide (e.on < j)) && (List.range j).all fun i=>
        match ops[i]? with
        | none=>true
        | some oi=>oi.apart ops oj || oj.after.toList.any fun e=>Region.binds .any e && e.on == i
theorem Qa0 {ops:Array Oper} (h:Qdw ops = true) {j:Nat} {oj:Oper} (hj:ops[j]? = some oj) :
    (∀ e ∈ oj.after,Region.binds .any e = true->e.on < j)/\∀ i oi,i < j->ops[i]? = some oi->oi.apart ops oj = true\/∃ e ∈ oj.after,Region.binds .any e = true/\e.on = i:=by
  have hlt:j < ops.size:=(Array.getElem?_eq_some_iff.1 hj).1
  have h1:=List.all_eq_true.1 h j (List.mem_range.2 hlt)
  rw [hj] at h1
  simp only [Bool.and_eq_true] at h1
  refine ⟨fun e he hb=>?_,fun i oi hi ho=>?_⟩
  · have:=List.all_eq_true.1 h1.1 e (by simpa using he)
    simpa [hb] using this
  · have:=List.all_eq_true.1 h1.2 i (List.mem_range.2 hi)
    rw [ho] at this
    simp only [Bool.or_eq_true,List.any_eq_true,Bool.and_eq_true,beq_iff_eq] at this
    rcases this with h | ⟨e,e1,e2,e3⟩
    · exact .inl h
    · exact .inr ⟨e,by simpa using e1,e2,e3⟩
theorem Qeu {p p':Nat->Bool}:∀ {l:List Nat} {j:Nat},j ∈ l->p j = true->p' j = false->(∀ i,p' i = true->p i = true)->l.countP p' < l.countP p
  | a :: l,j,hm,h1,h2,h3=>by
    have mono:∀ l:List Nat,l.countP p'<=l.countP p:=fun l=>List.countP_mono_left fun x _ hx=>h3 x hx
    simp only [List.countP_cons]
    rcases List.mem_cons.1 hm with rfl | hm
    · simp only [h1,h2,if_true,Bool.false_eq_true,if_false]
      have:=mono l
      omega
    · have:=Qeu hm h1 h2 h3
      have h4:(if p' a = true then 1 else 0)<=(if p a = true then 1 else 0):=by
        by_cases h:p' a = true
        · simp [h,h3 a h]
        · simp [h]
      omega
section
variable {P:Program} {ops:Array Oper} {T:Nat->St} {F:Nat->List Nat × Bool}
def wT (ops:Array Oper) (i t:Nat):Prop:=∃ o,ops[i]? = some o/\o.dst = some t
def wB (F:Nat->List Nat × Bool) (i k:Nat):Prop:=(F i).2 = true/\k ∈ (F i).1
structure Steps (P:Program) (ops:Array Oper) (T:Nat->St) (F:Nat->List Nat × Bool):Prop where
  step:∀ j,j < ops.size->∃ o,ops[j]? = some o/\Qla P ops.toList (T j) o (T (j + 1)) (F j)/\∀ i,i < j->Qpm (F j) (F i)->∃ e ∈ o.after,Region.binds .any e = true/\e.on = i
  ok:Qdw ops = true
theorem St.put_hp (S:St) (dst:Option Tmp) (d:DV):(S.put dst d).hp = S.hp:=by cases dst<;>rfl
theorem St.put_nt (S:St) (dst:Option Tmp) (d:DV):(S.put dst d).nt = S.nt:=by cases dst<;>rfl
theorem St.put_base (S:St) (dst:Option Tmp) (d:DV):(S.put dst d).base = S.base:=by cases dst<;>rfl
theorem St.put_look (S:St) (dst:Option Tmp) (d:DV) (t:Nat) (h:dst ≠ some t):V.look (S.put dst d).tm t = V.look S.tm t:=by
  cases dst with
  | none=>rfl
  | some u =>
    simp only [St.put,V.look]
    rw [if_neg]
    intro e
    exact h (by rw [e])
theorem Qd4 {S S':St} {o:Oper} {f:List Nat × Bool} {all:List Oper} (h:Qla P all S o S' f) :
    S'.nt = S.nt/\S'.base = S.base/\S'.hp.length = S.hp.length/\(∀ t,o.dst ≠ some t->V.look S'.tm t = V.look S.tm t)/\(∀ k,¬ (f.2 = true/\k ∈ f.1)->S'.hp[k]? = S.hp[k]?):=by
  obtain ⟨_,G,_,h⟩:=h
  rcases h with ⟨g,args,d,_,_,_,_,rfl,rfl⟩ | ⟨d,hp',_,hv,hk,rfl,rfl⟩ | ⟨_,rfl,rfl⟩
  · exact ⟨St.put_nt ..,St.put_base ..,by rw [St.put_hp],fun t ht=>St.put_look _ _ _ t ht,fun k _=>by rw [St.put_hp]⟩
  · have key:(bif G then hp' else S.hp).length = S.hp.length/\∀ k,¬ ((QbM (fun x=>Qm G (S.ev x)) o.op).2 = true/\k ∈ (QbM (fun x=>Qm G (S.ev x)) o.op).1)->(bif G then hp' else S.hp)[k]? = S.hp[k]?:=by
      cases G with
      | false=>exact ⟨rfl,fun k _=>rfl⟩
      | true =>
        simp only [cond_true]
        rcases Qcw (hp':=S.hp) hk (fun k _=>rfl) hv with ⟨e1,e2,_⟩ | ⟨e1,k0,cs,e2,e3,_⟩
        · rw [e2]; exact ⟨rfl,fun k _=>rfl⟩
        · rw [e3]
          refine ⟨?_,fun k hk=>?_⟩
          · unfold Qp; split<;>simp
          · rw [e1,e2] at hk
            have hne:k0 ≠ k:=fun h=>hk ⟨rfl,by simp [h]⟩
            unfold Qp
            split
            · rw [List.getElem?_set_ne hne]
            · rfl
    exact ⟨St.put_nt ..,St.put_base ..,by rw [St.put_hp]; exact key.1,fun t ht=>(St.put_look _ _ _ t ht).trans rfl,fun k hk=>by rw [St.put_hp]; exact key.2 k hk⟩
  · exact ⟨St.put_nt ..,St.put_base ..,by rw [St.put_hp],fun t ht=>St.put_look _ _ _ t ht,fun k _=>by rw [St.put_hp]⟩
theorem Qd2 (h:Steps P ops T F) {t a:Nat}:∀ b,a<=b->b<=ops.size->(∀ i,a<=i->i < b->¬ wT ops i t)->V.look (T b).tm t = V.look (T a).tm t
  | 0,h1,_,_=>by rw [Nat.le_zero.1 h1]
  | b + 1,h1,h2,h3=>by
    by_cases he:a = b + 1
    · rw [he]
    · obtain ⟨o,ho,hs,_⟩:=h.step b (by omega)
      rw [(Qd4 hs).2.2.2.1 t (fun hd=>h3 b (by omega) (by omega) ⟨o,ho,hd⟩)]
      exact Qd2 h b (by omega) (by omega) (fun i hi1 hi2=>h3 i hi1 (by omega))
theorem Qeq (h:Steps P ops T F) {k a:Nat}:∀ b,a<=b->b<=ops.size->(∀ i,a<=i->i < b->¬ wB F i k)->(T b).hp[k]? = (T a).hp[k]?
  | 0,h1,_,_=>by rw [Nat.le_zero.1 h1]
  | b + 1,h1,h2,h3=>by
    by_cases he:a = b + 1
    · rw [he]
    · obtain ⟨o,ho,hs,_⟩:=h.step b (by omega)
      rw [(Qd4 hs).2.2.2.2 k (fun hd=>h3 b (by omega) (by omega) hd)]
      exact Qeq h b (by omega) (by omega) (fun i hi1 hi2=>h3 i hi1 (by omega))
theorem Qb2 (h:Steps P ops T F):∀ j,j<=ops.size->(T j).nt = (T 0).nt/\(T j).base = (T 0).base/\(T j).hp.length = (T 0).hp.length
  | 0,_=>⟨rfl,rfl,rfl⟩
  | j + 1,hj=>by
    obtain ⟨o,ho,hs,_⟩:=h.step j (by omega)
    obtain ⟨e1,e2,e3,_⟩:=Qd4 hs
    obtain ⟨f1,f2,f3⟩:=Qb2 h j (by omega)
    exact ⟨e1.trans f1,e2.trans f2,e3.trans f3⟩
structure Inv (O:Org) (ops:Array Oper) (T:Nat->St) (F:Nat->List Nat × Bool) (listed:Array Bool) (S:St):Prop where
  size:listed.size = ops.size
  nt:S.nt = (T 0).nt
  base:S.base = (T 0).base
  len:S.hp.length = (T 0).hp.length
  closed:∀ i o,ops[i]? = some o->listed.getD i false = true->∀ e ∈ o.after,Region.binds .any e = true->listed.getD e.on false = true
  tm:∀ t,∃ m,m<=ops.size/\V.look S.tm t = V.look (T m).tm t/\(∀ i,i < m->wT ops i t->listed.getD i false = true)/\(∀ i,m<=i->wT ops i t->listed.getD i false = false)
  hp:∀ k,∃ m,m<=ops.size/\S.hp[k]? = (T m).hp[k]?/\(∀ i,i < m->wB F i k->listed.getD i false = true)/\(∀ i,m<=i->i < ops.size->wB F i k->listed.getD i false = false)
theorem Qr6 {O:Org} (h:Steps P ops T F) {listed:Array Bool} {S:St} (hi:Inv O ops T F listed S) {j:Nat} {oj:Oper} (hj:ops[j]? = some oj) (hun:listed.getD j false = false) (hr:∀ e ∈ oj.after,Region.binds .any e = true->listed.getD e.on false = true)
    {t:Nat} (ht:t ∈ oj.looksAt ops\/oj.dst = some t):V.look S.tm t = V.look (T j).tm t/\(∀ i,i < j->wT ops i t->listed.getD i false = true)/\(∀ i,j<=i->wT ops i t->listed.getD i false = false):=by
  have hjlt:j < ops.size:=(Array.getElem?_eq_some_iff.1 hj).1
  have before:∀ i,i < j->wT ops i t->listed.getD i false = true:=by
    rintro i hij ⟨oi,hoi,hd⟩
    rcases (Qa0 h.ok hj).2 i oi hij hoi with ha | ⟨e,e1,e2,e3⟩
    · obtain ⟨a1,a2,_⟩:=Oper.apart_spec ha
      rcases ht with ht | ht
      · exact absurd ht (a1 t hd)
      · exact absurd ht (a2 t hd)
    · rw [<- e3]; exact hr e e1 e2
  have QT:∀ i,j<=i->wT ops i t->listed.getD i false = false:=by
    rintro i hij ⟨oi,hoi,hd⟩
    by_cases hij':i = j
    · rw [hij']; exact hun
    · rcases (Qa0 h.ok hoi).2 j oj (by omega) hj with ha | ⟨e,e1,e2,e3⟩
      · obtain ⟨_,a2,a3⟩:=Oper.apart_spec ha
        rcases ht with ht | ht
        · exact absurd ht (a3 t hd)
        · exact absurd hd (a2 t ht)
      · cases hl:listed.getD i false with
        | false=>rfl
        | true =>
          have:=hi.closed i oi hoi hl e e1 e2
          rw [e3,hun] at this
          cases this
  refine ⟨?_,before,QT⟩
  obtain ⟨m,hm,e,h1,h2⟩:=hi.tm t
  rw [e]
  rcases Nat.le_total m j with hmj | hmj
  · exact (Qd2 h j hmj (by omega) (fun i h3 h4 hw=>by have:=before i h4 hw; rw [h2 i h3 hw] at this; cases this)).symm
  · exact Qd2 h m hmj hm (fun i h3 h4 hw=>by have:=h1 i h4 hw; rw [QT i h3 hw] at this; cases this)
theorem QkG {O:Org} (h:Steps P ops T F) {listed:Array Bool} {S:St} (hi:Inv O ops T F listed S) {j:Nat} {oj:Oper} (hj:ops[j]? = some oj) (hun:listed.getD j false = false) (hr:∀ e ∈ oj.after,Region.binds .any e = true->listed.getD e.on false = true)
    {k:Nat} (hk:k ∈ (F j).1):(S.hp[k]? = (T j).hp[k]?)/\((F j).2 = true->(∀ i,i < j->wB F i k->listed.getD i false = true)/\(∀ i,j<=i->i < ops.size->wB F i k->listed.getD i false = false)):=by
  have hjlt:j < ops.size:=(Array.getElem?_eq_some_iff.1 hj).1
  obtain ⟨o',ho',_,hcl⟩:=h.step j hjlt
  rw [hj] at ho'
  simp at ho'
  subst ho'
  have before:∀ i,i < j->wB F i k->listed.getD i false = true:=by
    rintro i hij ⟨hw,hki⟩
    obtain ⟨e,e1,e2,e3⟩:=hcl i hij ⟨.inl hw,k,hki,hk⟩
    rw [<- e3]; exact hr e e1 e2
  have QT:∀ i,j<=i->i < ops.size->wB F i k->listed.getD i false = false:=by
    rintro i hij hilt ⟨hw,hki⟩
    by_cases hij':i = j
    · rw [hij']; exact hun
    · obtain ⟨oi,hoi,_,hcli⟩:=h.step i hilt
      obtain ⟨e,e1,e2,e3⟩:=hcli j (by omega) ⟨.inr hw,k,hk,hki⟩
      cases hl:listed.getD i false with
      | false=>rfl
      | true =>
        have:=hi.closed i oi hoi hl e e1 e2
        rw [e3,hun] at this
        cases this
  refine ⟨?_,fun _=>⟨before,QT⟩⟩
  obtain ⟨m,hm,e,h1,h2⟩:=hi.hp k
  rw [e]
  rcases Nat.le_total m j with hmj | hmj
  · exact (Qeq h j hmj (by omega) (fun i h3 h4 hw=>by have:=before i h4 hw; rw [h2 i h3 (by omega) hw] at this; cases this)).symm
  · exact Qeq h m hmj hm (fun i h3 h4 hw=>by have:=h1 i h4 hw; rw [QT i h3 (by omega) hw] at this; cases this)
theorem Qi7 {O:Org} (h:Steps P ops T F) {listed:Array Bool} {S S1:St} (hi:Inv O ops T F listed S) {j:Nat} {oj:Oper} (hj:ops[j]? = some oj) (hun:listed.getD j false = false) (hr:∀ e ∈ oj.after,Region.binds .any e = true->listed.getD e.on false = true)
    (hnt:S1.nt = S.nt) (hbase:S1.base = S.base) (hlen:S1.hp.length = S.hp.length) (htm:∀ t,oj.dst ≠ some t->V.look S1.tm t = V.look S.tm t) (htm':∀ t,oj.dst = some t->V.look S1.tm t = V.look (T (j + 1)).tm t)
    (hhp:∀ k,¬ wB F j k->S1.hp[k]? = S.hp[k]?) (hhp':∀ k,wB F j k->S1.hp[k]? = (T (j + 1)).hp[k]?):Inv O ops T F (listed.setIfInBounds j true) S1:=by
  have hjlt:j < ops.size:=(Array.getElem?_eq_some_iff.1 hj).1
  have hjl:j < listed.size:=by rw [hi.size]; exact hjlt
  have hself:(listed.setIfInBounds j true).getD j false = true:=by simp [hjl]
  have hoth:∀ i,i ≠ j->(listed.setIfInBounds j true).getD i false = listed.getD i false:=fun i hij=>getD_set_ne false (Ne.symm hij)
  refine ⟨by simp [hi.size],hnt.trans hi.nt,hbase.trans hi.base,hlen.trans hi.len,fun i o hio hl e he hb=>?_,fun t=>?_,fun k=>?_⟩
  · by_cases hij:i = j
    · subst hij
      rw [hj] at hio
      simp at hio
      subst hio
      exact getD_set_true (hr e he hb)
    · rw [hoth i hij] at hl
      exact getD_set_true (hi.closed i o hio hl e he hb)
  · by_cases ht:oj.dst = some t
    · obtain ⟨_,h1,h2⟩:=Qr6 h hi hj hun hr (.inr ht)
      refine ⟨j + 1,by omega,htm' t ht,fun i hij hw=>?_,fun i hij hw=>?_⟩
      · by_cases he:i = j
        · rw [he]; exact hself
        · rw [hoth i he]; exact h1 i (by omega) hw
      · rw [hoth i (by omega)]; exact h2 i (by omega) hw
    · obtain ⟨m,hm,e,h1,h2⟩:=hi.tm t
      have hne:∀ i,wT ops i t->i ≠ j:=by
        rintro i ⟨o,ho,hd⟩ rfl
        rw [hj] at ho
        simp at ho
        subst ho
        exact ht hd
      exact ⟨m,hm,(htm t ht).trans e,fun i hi' hw=>by rw [hoth i (hne i hw)]; exact h1 i hi' hw,fun i hi' hw=>by rw [hoth i (hne i hw)]; exact h2 i hi' hw⟩
  · by_cases hk:wB F j k
    · obtain ⟨_,h12⟩:=QkG h hi hj hun hr hk.2
      obtain ⟨h1,h2⟩:=h12 hk.1
      refine ⟨j + 1,by omega,hhp' k hk,fun i hij hw=>?_,fun i hij hlt hw=>?_⟩
      · by_cases he:i = j
        · rw [he]; exact hself
        · rw [hoth i he]; exact h1 i (by omega) hw
      · rw [hoth i (by omega)]; exact h2 i (by omega) hlt hw
    · obtain ⟨m,hm,e,h1,h2⟩:=hi.hp k
      have hne:∀ i,wB F i k->i ≠ j:=fun i hw he=>hk (he ▸ hw)
      exact ⟨m,hm,(hhp k hk).trans e,fun i hi' hw=>by rw [hoth i (hne i hw)]; exact h1 i hi' hw,fun i hi' hlt hw=>by rw [hoth i (hne i hw)]; exact h2 i hi' hlt hw⟩
theorem Qw9 {S S':St} (h1:S.nt = S'.nt) (h2:S.base = S'.base) (h3:S.hp = S'.hp) {O:Org} {β:Map} {a:Act} {w:World} (hs:Sim O β S a w) (ht:∀ t,V.look S.tm t = V.look S'.tm t):Sim O β S' a w:=
  ⟨hs.defers,by rw [<- h1]; exact hs.size,fun t=>by rw [<- ht t,<- h3]; exact hs.tm t,by rw [<- h3]; exact hs.heap,by rw [<- h3]; exact hs.evo,by rw [<- h2]; exact hs.base⟩
theorem Qa6 {S S':St} {o:Oper} (h:∀ t ∈ o.looksAt ops,V.look S'.tm t = V.look S.tm t):QA ops.toList S' o = QA ops.toList S o:=by
  unfold QA
  cases hg:o.guard with
  | none=>rfl
  | some jw =>
    obtain ⟨j,want⟩:=jw
    simp only
    cases hb:(ops.toList[j]?.bind (·.dst)) with
    | none=>rfl
    | some t =>
      have hb':(ops[j]?).bind (·.dst) = some t:=by simpa using hb
      have:V.look S'.tm t = V.look S.tm t:=h t (by simp [Oper.looksAt,hg,hb'])
      simp only [Option.map_some,this]
theorem QhD {S S':St} {o:Oper} (h:∀ t ∈ o.looksAt ops,V.look S'.tm t = V.look S.tm t):∀ x ∈ o.op.operands.toList,S'.ev x = S.ev x:=by
  intro x hx
  cases x with
  | tmp t=>exact h t (by simp only [Oper.looksAt,List.mem_append,List.mem_filterMap]; exact .inl ⟨.tmp t,hx,rfl⟩)
  | _=>rfl
theorem QgZ {ev ev':Operand->DV} {o:Op} (h:∀ x ∈ o.operands.toList,ev' x = ev x):Ql ev' o = Ql ev o:=by
  cases o with
  | call c =>
    simp only [Ql]
    cases hc:c.callee with
    | value f =>
      have hf:ev' f = ev f:=h f (by simp [Op.operands,Call.operands,hc])
      have ha:c.args.toList.map ev' = c.args.toList.map ev:=List.map_congr_left fun x hx=>h x (by simp [Op.operands,Call.operands]; right; simpa using hx)
      simp only [hf,ha]
    | _=>rfl
  | _=>rfl
theorem QbD {O:Org} {Q:Exit->Act->World->Prop} (h:Steps P ops T F) (hK:∀ β a w,Sim O β (T ops.size) a w->Q .normal a w):∀ (fuel:Nat) (listed:Array Bool) (a:Act) (w:World) (β:Map) (S:St),
    (List.range ops.size).countP (fun i=>!listed.getD i false)<=fuel->Sim O β S a w->Inv O ops T F listed S->wpAny P .any ops Q fuel listed a w:=by
  have done : ∀ (listed:Array Bool) (a:Act) (w:World) (β:Map) (S:St),Region.ready .any ops listed = []->Sim O β S a w->Inv O ops T F listed S->Q .normal a w:=by
    intro listed a w β S hready hs hi
    have all:∀ i,i < ops.size->listed.getD i false = true:=by
      intro i
      induction i using Nat.strongRecOn with
      | _ i ih =>
        intro hlt
        cases hl:listed.getD i false with
        | true=>rfl
        | false =>
          have ho:ops[i]? = some ops[i]:=Array.getElem?_eq_getElem hlt
          have hmem:i ∈ Region.ready .any ops listed:=by
            rw [mem_ready]
            refine ⟨?_,ops[i],ho,fun e he hb=>ih e.on ((Qa0 h.ok ho).1 e he hb) (Nat.lt_trans ((Qa0 h.ok ho).1 e he hb) hlt)⟩
            have hsz:i < listed.size:=by rw [hi.size]; exact hlt
            simpa [hsz] using hl
          rw [hready] at hmem
          cases hmem
    obtain ⟨f1,f2,f3⟩:=Qb2 h ops.size (Nat.le_refl _)
    have lt_of:∀ i t,wT ops i t->i < ops.size:=fun i t ⟨o,ho,_⟩=>(Array.getElem?_eq_some_iff.1 ho).1
    refine hK β a w (Qw9 (S:=S) (hi.nt.trans f1.symm) (hi.base.trans f2.symm) ?_ hs (fun t=>?_))
    · apply List.ext_getElem?
      intro k
      obtain ⟨m,hm,e,_,h2⟩:=hi.hp k
      rw [e]
      exact (Qeq h ops.size hm (Nat.le_refl _) (fun i h3 h4 hw=>by have:=h2 i h3 h4 hw; rw [all i h4] at this; cases this)).symm
    · obtain ⟨m,hm,e,_,h2⟩:=hi.tm t
      rw [e]
      exact (Qd2 h ops.size hm (Nat.le_refl _) (fun i h3 h4 hw=>by have:=h2 i h3 hw; rw [all i h4] at this; cases this)).symm
  intro fuel
  induction fuel with
  | zero =>
    intro listed a w β S hc hs hi
    have hready:Region.ready .any ops listed = []:=by
      apply List.eq_nil_iff_forall_not_mem.2
      intro j hj
      obtain ⟨h0,o,ho,_⟩:=mem_ready.1 hj
      have hlt:j < ops.size:=(Array.getElem?_eq_some_iff.1 ho).1
      have:0 < (List.range ops.size).countP (fun i=>!listed.getD i false):=by
        rw [List.countP_pos_iff]
        refine ⟨j,List.mem_range.2 hlt,?_⟩
        have hsz:j < listed.size:=by rw [hi.size]; exact hlt
        simp [hsz] at h0 |-
        exact h0
      omega
    exact ⟨hready,done listed a w β S hready hs hi⟩
  | succ fuel ih =>
    intro listed a w β S hc hs hi
    refine ⟨fun hready=>done listed a w β S hready hs hi,fun j hj=>?_⟩
    obtain ⟨h0,oj,hoj,hr⟩:=mem_ready.1 hj
    have hlt:j < ops.size:=(Array.getElem?_eq_some_iff.1 hoj).1
    have hsz:j < listed.size:=by rw [hi.size]; exact hlt
    have hun:listed.getD j false = false:=by simp [hsz] at h0 |-; exact h0
    obtain ⟨o',ho',hstep,_⟩:=h.step j hlt
    rw [hoj] at ho'
    simp at ho'
    subst ho'
    have htm:∀ t ∈ oj.looksAt ops,V.look S.tm t = V.look (T j).tm t:=fun t ht=>(Qr6 h hi hoj hun hr (.inl ht)).1
    have heff:=Qd4 hstep
    obtain ⟨hf,G,hg,hcase⟩:=hstep
    obtain ⟨f1,f2,f3⟩:=Qb2 h j (by omega)
    have hf':S.fits oj.dst = true:=by
      unfold St.fits at hf |-
      rw [hi.nt,<- f1]; exact hf
    have hg':QA ops.toList S oj = some G:=by rw [Qa6 htm]; exact hg
    have hw:=QK (ops:=ops) hs hg'
    have hevS:∀ x ∈ oj.op.operands.toList,Qm G (S.ev x) = Qm G ((T j).ev x):=fun x hx=>by rw [QhD htm x hx]
    have hev:G = true->∀ x,RelD w β S.hp (Qm G (S.ev x)) (a.eval x):=fun hG x=>Qal (hs.ev x) hG
    have hcnt:(List.range ops.size).countP (fun i=>!(listed.setIfInBounds j true).getD i false)<=fuel:=by
      have:(List.range ops.size).countP (fun i=>!(listed.setIfInBounds j true).getD i false) < (List.range ops.size).countP (fun i=>!listed.getD i false):=by
        refine Qeu (List.mem_range.2 hlt) (by rw [hun]; rfl) (by simp [hsz]) (fun i hp=>?_)
        by_cases hij:i = j
        · rw [hij,hun]; rfl
        · rw [getD_set_ne false (Ne.symm hij)] at hp; exact hp
      omega
    unfold wpOp
    simp only [hoj,hw]
    -- what stands QT this operation
    have next:∀ (β1:Map) (a1:Act) (w1:World) (S1:St),Sim O β1 S1 a1 w1->S1.nt = S.nt->S1.base = S.base->S1.hp.length = S.hp.length->(∀ t,oj.dst ≠ some t->V.look S1.tm t = V.look S.tm t)->(∀ t,oj.dst = some t->V.look S1.tm t = V.look (T (j + 1)).tm t) ->
        (∀ k,¬ wB F j k->S1.hp[k]? = S.hp[k]?)->(∀ k,wB F j k->S1.hp[k]? = (T (j + 1)).hp[k]?)->wpAny P .any ops Q fuel (listed.setIfInBounds j true) a1 w1:=
      fun β1 a1 w1 S1 k0 k1 k2 k3 k4 k5 k6 k7=>ih _ a1 w1 β1 S1 hcnt k0 (Qi7 h hi hoj hun hr k1 k2 k3 k4 k5 k6 k7)
    have putlook:∀ (S0:St) (d:DV) t,oj.dst = some t->V.look (S0.put oj.dst d).tm t = d:=fun S0 d t ht=>by rw [ht]; simp [St.put,V.look]
    rcases hcase with ⟨g,args,d,hc,hcalls,ha,hd,hT,hF⟩ | ⟨d,hp',hc,hv,hk,hT,hF⟩ | ⟨rfl,hT,hF⟩
    · have nb:∀ k,¬ wB F j k:=fun k hk=>by have:=hk.1; rw [hF] at this; cases this
      have fin:∀ (β1:Map) (a1:Act) (w1:World),Sim O β1 (S.put oj.dst (Qcn oj.guard G d)) a1 w1->wpAny P .any ops Q fuel (listed.setIfInBounds j true) a1 w1:=fun β1 a1 w1 k0=>
        next β1 a1 w1 _ k0 (St.put_nt ..) (St.put_base ..) (by rw [St.put_hp]) (fun t ht=>St.put_look _ _ _ t ht) (fun t ht=>by rw [hT,putlook _ _ t ht,putlook _ _ t ht]) (fun k _=>by rw [St.put_hp]) (fun k hk=>absurd hk (nb k))
      cases hG:G with
      | true =>
        subst hG
        rw [if_pos rfl]
        have hc':Ql (fun x=>Qm true (S.ev x)) oj.op = some (g,args):=by rw [QgZ hevS]; exact hc
        refine .inl (Qg0 (hev rfl) hc' hs.heap ((VCalls.pure ((hcalls rfl).mono fun r h' ⟨e1,e2⟩=>⟨e1,by rw [e2]; exact hd,e2⟩) ha).mono fun r h' hh=>hh) (fun v r h' β' w' k1 k2 k3 k4=>?_))
        obtain ⟨rfl,rfl⟩:=k4
        refine fin β' _ _ (hs.step k1 k2 (d:=Qcn oj.guard true r) ?_ hf')
        cases oj.guard with
        | none=>exact k3
        | some _=>exact .opt true r v (fun _=>k3) (by simp)
      | false =>
        subst hG
        rw [if_neg (by simp)]
        refine fin β _ _ (hs.skip (d:=Qcn oj.guard false d) ?_ hf')
        cases hgd:oj.guard with
        | none=>simp [QA,hgd] at hg
        | some _=>exact .opt false d undef (by simp) (fun _=>rfl)
    · have hfoot:∀ k ∈ (QbM (fun x=>Qm G ((T j).ev x)) oj.op).1,S.hp[k]? = (T j).hp[k]?:=fun k hk'=>by
        rw [<- hF] at hk'
        exact (QkG h hi hoj hun hr hk').1
      have hcong:vop P (fun x=>Qm G (S.ev x)) S.hp oj.op = vop P (fun x=>Qm G ((T j).ev x)) S.hp oj.op:=Qf4 hk hevS
      cases hG:G with
      | true =>
        subst hG
        rw [if_pos rfl]
        simp only [cond_true] at hT
        have hdr:∀ {β':Map} {h':Qa} {w':World} {v:Value},RelD w' β' h' d v->RelD w' β' h' (Qcn oj.guard true d) v:=fun {β' h' w' v} k3=>by
          cases oj.guard with
          | none=>exact k3
          | some _=>exact .opt true d v (fun _=>k3) (by simp)
        rcases Qcw (hp':=S.hp) hk hfoot hv with ⟨w0,e1,e2⟩ | ⟨w1,k0,cs,e0,e1,e2⟩
        · rw [<- hcong] at e2
          subst e1
          have nb:∀ k,¬ wB F j k:=fun k hk=>by have:=hk.1; rw [hF,w0] at this; cases this
          refine .inl (Qbx (QaJ hs.heap (hev rfl) (fun _=>rfl) e2) (fun v w' β' k1 k2 k3=>?_))
          exact next β' _ _ _ (hs.step k1 k2 (hdr k3) hf') (St.put_nt ..) (St.put_base ..) (by rw [St.put_hp]) (fun t ht=>St.put_look _ _ _ t ht) (fun t ht=>by rw [hT,putlook _ _ t ht,putlook _ _ t ht])
            (fun k _=>by rw [St.put_hp]) (fun k hk=>absurd hk (nb k))
        · rw [<- hcong] at e2
          subst e1
          refine .inl (Qbx (QaJ hs.heap (hev rfl) (fun _=>rfl) e2) (fun v w' β' k1 k2 k3=>?_))
          have hwk:∀ k,wB F j k ↔ k = k0:=fun k=>by unfold wB; rw [hF,w1,e0]; simp
          refine next β' _ _ _ (hs.step k1 k2 (hdr k3) hf') (St.put_nt ..) (St.put_base ..) (by rw [St.put_hp]; show (Qp S.hp k0 cs).length = _; unfold Qp; split<;>simp) (fun t ht=>St.put_look _ _ _ t ht) (fun t ht=>by rw [hT,putlook _ _ t ht,putlook _ _ t ht]) (fun k hk=>?_) (fun k hk=>?_)
          · rw [St.put_hp]
            show (Qp S.hp k0 cs)[k]? = _
            have hne:k0 ≠ k:=fun he=>hk ((hwk k).2 he.symm)
            unfold Qp
            split
            · rw [List.getElem?_set_ne hne]
            · rfl
          · rw [(hwk k).1 hk,hT,St.put_hp,St.put_hp]
            show (Qp S.hp k0 cs)[k0]? = (Qp (T j).hp k0 cs)[k0]?
            have hsame:S.hp[k0]? = (T j).hp[k0]?:=hfoot k0 (by rw [e0]; simp)
            unfold Qp
            rw [hsame]
            cases hB:(T j).hp[k0]? with
            | none=>simp only; rw [hsame]
            | some B =>
              have l1:k0 < (T j).hp.length:=(List.getElem?_eq_some_iff.1 hB).1
              have l2:k0 < S.hp.length:=(List.getElem?_eq_some_iff.1 (hsame.trans hB)).1
              simp only
              rw [List.getElem?_set_self l1,List.getElem?_set_self l2]
      | false =>
        subst hG
        rw [if_neg (by simp)]
        simp only [cond_false] at hT
        refine next β _ _ (S.put oj.dst (Qcn oj.guard false d)) (hs.skip (d:=Qcn oj.guard false d) ?_ hf') (St.put_nt ..) (St.put_base ..) (by rw [St.put_hp]) (fun t ht=>St.put_look _ _ _ t ht) (fun t ht=>by rw [hT,putlook _ _ t ht,putlook _ _ t ht]) (fun k _=>by rw [St.put_hp]) (fun k hk=>?_)
        · cases hgd:oj.guard with
          | none=>simp [QA,hgd] at hg
          | some _=>exact .opt false d undef (by simp) (fun _=>rfl)
        · rw [hT,St.put_hp,St.put_hp]
          exact (QkG h hi hoj hun hr hk.2).1
    · have nb:∀ k,¬ wB F j k:=fun k hk=>by have:=hk.1; rw [hF] at this; cases this
      rw [if_neg (by simp)]
      exact next β _ _ _ (hs.skip (.tup [] #[] rfl (by simp)) hf') (St.put_nt ..) (St.put_base ..) (by rw [St.put_hp]) (fun t ht=>St.put_look _ _ _ t ht) (fun t ht=>by rw [hT,putlook _ _ t ht,putlook _ _ t ht]) (fun k _=>by rw [St.put_hp]) (fun k hk=>absurd hk (nb k))
end
theorem QdB {P:Program} {id:Nat} {ops:Array Oper} {Q:Exit->St->Prop} {S:St} (hm:P.follows .mixedOrders = true) (hB:Qdw ops = true) (h:vdr P ops.toList ops.toList [] (Q .normal) S):VDraw P id ops Q S:=by
  intro O β a w hs
  obtain ⟨T,F,_,h2,h3,h4⟩:=Qcy ops.toList [] [] S rfl rfl h
  simp only [List.length_nil] at h2
  have hsteps:Steps P ops T F:=⟨fun j hj=>by
    obtain ⟨o,e1,e2,e3⟩:=h4 j (Nat.zero_le _) (by simpa using hj)
    exact ⟨o,by simpa using e1,e2,e3⟩,hB⟩
  have hs':Sim O β (T 0) a { w with drawn:=w.drawn + 1 }:=by
    rw [h2]
    have e:Evo w β S.hp w.drew β S.hp:=Qa5 w β S.hp
    exact ⟨hs.defers,hs.size,fun t=>(hs.tm t).mono e,hs.heap.drew,hs.evo.trans e,hs.base⟩
  refine wp_region_any hm (QbD (O:=O) (Q:=Qkz O Q) hsteps (fun β a w hk=>⟨β,_,hk,by simpa using h3⟩) ops.size (Array.replicate ops.size false) a _ β (T 0) ?_ hs' ?_)
  · have:=List.countP_le_length (p:=fun i=>!(Array.replicate ops.size false).getD i false) (l:=List.range ops.size)
    simpa using this
  · have hfalse:∀ i,(Array.replicate ops.size false).getD i false = false:=fun i=>by
      by_cases hi:i < ops.size
      · simp [hi]
      · simp [hi]
    refine ⟨by simp,rfl,rfl,rfl,fun i o _ hl=>?_,fun t=>⟨0,Nat.zero_le _,rfl,fun i hi=>absurd hi (Nat.not_lt_zero _),fun i _ _=>hfalse i⟩,fun k=>⟨0,Nat.zero_le _,rfl,fun i hi=>absurd hi (Nat.not_lt_zero _),fun i _ _ _=>hfalse i⟩⟩
    rw [hfalse] at hl
    cases hl
end Go.V
namespace Go.V
theorem RelD.closed {w:World} {β β':Map} {hp hp':Qa} {d:DV} {v:Value} (h:RelD w β hp d v) (hn:d.nums (fun _=>false) = true) (him:∀ b,img β' hp' b->img β hp b):RelD w β' hp' d v:=by
  induction h with
  | pv q v h=>exact .pv q v (h.mono (Nat.le_refl _) (fun _ _ _=>rfl) (fun b _=>him b))
  | ptr k off b h hb=>simp [DV.nums] at hn
  | own=>simp [DV.nums] at hn
  | own0=>simp [DV.nums] at hn
  | ownc=>simp [DV.nums] at hn
  | ip cs ad val h1 h2 h3 =>
    exact .ip cs ad val h1 (fun j d hd=>⟨(h2 j d hd).1,fun x=>(h2 j d hd).2.1 (him _ x),(h2 j d hd).2.2⟩) (fun j d hd=>(h3 j d hd).mono (Nat.le_refl _) (fun _ _ _=>rfl) (fun b _=>him b))
  | agg ds vs h _ ih=>exact .agg _ vs h (fun i d hd=>ih i d hd (DV.nums_go (by simpa [DV.nums] using hn) i d hd))
  | tup ds vs h _ ih=>exact .tup _ vs h (fun i d hd=>ih i d hd (DV.nums_go (by simpa [DV.nums] using hn) i d hd))
  | fn f ds es vs us h h' _ _ ih ih' =>
    have hr':DV.nums.go (fun _=>false) ds = true/\DV.nums.go (fun _=>false) es = true:=by simpa [DV.nums] using hn
    exact .fn f _ _ vs us h h' (fun i d hd=>ih i d hd (DV.nums_go hr'.1 i d hd)) (fun i d hd=>ih' i d hd (DV.nums_go hr'.2 i d hd))
  | opt c d v _ hf ih=>exact .opt c _ v (fun hc=>ih hc (by simpa [DV.nums] using hn)) hf
  | any v=>exact .any v
theorem VCalls.ptr1 {P:Program} {g:FuncId} {args:List DV} {hp:Qa} {k:Nat} {B:Blk} {R:DV->Blk->Prop} (hk:hp[k]? = some B) (hl:B.live = true) (hB:DV.nums.go (fun _=>false) B.cells = true)
    (c:VCalls P g (args.map (DV.ren fun _=>0)) [B] fun r h'=>∃ B',h' = [B']/\B'.live = true/\DV.nums.go (fun _=>false) B'.cells = true/\r.nums (fun _=>false) = true/\R r B')
    (ha:DV.nums.go (fun i=>i == k) args = true):VCalls P g args hp fun r h'=>∃ B',h' = hp.set k B'/\B'.live = true/\DV.nums.go (fun _=>false) B'.cells = true/\R r B':=by
  refine ⟨fun w β vs hh hr=>?_⟩
  have hklt:k < hp.length:=(List.getElem?_eq_some_iff.1 hk).1
  let βc:Map:=⟨fun i=>if i = 0 then β.f k else none,fun b=>img β hp b/\β.f k ≠ some b⟩
  have livec:∀ b,live βc [B] b ↔ β.f k = some b:=fun b=>by
    constructor
    · rintro ⟨i,D,h1,h2,h3⟩
      cases i with
      | zero=>exact h3
      | succ i=>simp at h1
    · intro h
      exact ⟨0,B,rfl,hl,h⟩
  have livek:∀ b,β.f k = some b->live β hp b:=fun b hb=>⟨k,B,hk,hl,hb⟩
  have himc:∀ b,img βc [B] b->img β hp b:=fun b hb=>by
    rcases hb with hb | hb
    · exact hb.1
    · exact .inr (livek b ((livec b).1 hb))
  have himc':∀ b,img β hp b->img βc [B] b:=fun b hb=>by
    by_cases h:β.f k = some b
    · exact .inr ((livec b).2 h)
    · exact .inl ⟨hb,h⟩
  have hhc:HeapRel w βc [B]:=by
    refine ⟨fun i D b h1 h2 h3=>?_,fun i D h1 h2 h3=>?_,fun i j D D' b h1 h2 _ _ _ _=>?_,fun i D b h1 h2 h3=>?_,fun b hb=>?_⟩
    · cases i with
      | zero =>
        simp at h1
        subst h1
        obtain ⟨C,g1,g2,g3⟩:=hh.blk k B b hk hl h3
        exact ⟨C,g1,g2,fun i d hd=>⟨(g3 i d hd).1,(g3 i d hd).2.closed (DV.nums_go hB i d hd) himc⟩⟩
      | succ i=>simp at h1
    · cases i with
      | zero=>simp at h1; subst h1; exact hh.none k B hk hl h3
      | succ i=>simp at h1
    · cases i<;>cases j<;>simp_all
    · cases i with
      | zero=>exact fun hX=>hX.2 h3
      | succ i=>simp at h1
    · rcases hb.1 with hb | hb
      · exact hh.bound b hb
      · exact QbK hh hb
  have hargs:RelL w βc [B] (args.map (DV.ren fun _=>0)) vs:=by
    refine ⟨by simpa using hr.1,fun i d hd=>?_⟩
    rw [List.getElem?_map] at hd
    cases hx:args[i]? with
    | none=>simp [hx] at hd
    | some x =>
      simp [hx] at hd
      subst hd
      exact RelD.ren (p:=fun i=>i == k) (fun j hj _=>⟨by simp,by simp at hj; simp [βc,hj]⟩) himc (hr.2 i x hx) (DV.nums_go ha i x hx)
  refine (c.run w βc vs hhc hargs).mono ?_
  rintro e w' ⟨v,r,h',β',rfl,ev,hh',hrel,B',rfl,hl',hB',hrn,hR⟩
  have hf0:β'.f 0 = β.f k:=ev.beta 0 (by simp)
  have hset:(hp.set k B')[k]? = some B':=List.getElem?_set_self hklt
  have lives:∀ b,live β (hp.set k B') b->live β hp b:=by
    rintro b ⟨j,D,h1,h2,h3⟩
    by_cases hj:j = k
    · subst hj; exact livek b h3
    · rw [List.getElem?_set_ne (by omega)] at h1; exact ⟨j,D,h1,h2,h3⟩
  have e:Evo w β hp w' β (hp.set k B'):=by
    refine ⟨ev.os,ev.tape,ev.output,ev.size,by simp,fun _ _=>rfl,fun b hb hn=>ev.same b hb (fun h=>hn (livek b ((livec b).1 h))),ev.shape,fun b _ h=>lives b h,rfl⟩
  have him':∀ b,img β (hp.set k B') b->img β' [B'] b:=fun b hb=>by
    by_cases h:β.f k = some b
    · exact .inr ⟨0,B',rfl,hl',hf0.trans h⟩
    · refine .inl ?_
      rw [ev.X]
      exact ⟨hb.imp id (lives b),h⟩
  refine ⟨v,r,hp.set k B',β,rfl,e,?_,hrel.closed hrn him',B',rfl,hl',hB',hR⟩
  refine ⟨fun j D b h1 h2 h3=>?_,fun j D h1 h2 h3=>?_,fun i j D D' b h1 h2 h3 h4 h5 h6=>?_,fun j D b h1 h2 h3=>?_,fun b hb=>Nat.lt_of_lt_of_le (hh.bound b hb) ev.size⟩
  · by_cases hj:j = k
    · subst hj
      rw [hset] at h1
      simp at h1
      subst h1
      obtain ⟨C,g1,g2,g3⟩:=hh'.blk 0 B' b rfl hl' (hf0.trans h3)
      exact ⟨C,g1,g2,fun i d hd=>⟨(g3 i d hd).1,(g3 i d hd).2.closed (DV.nums_go hB' i d hd) him'⟩⟩
    · rw [List.getElem?_set_ne (by omega)] at h1
      obtain ⟨C,g1,g2,g3⟩:=hh.blk j D b h1 h2 h3
      have hne:β.f k ≠ some b:=fun h=>hj (hh.inj j k D B b h1 hk h2 hl h3 h)
      have hsame:=ev.same b (Array.getElem?_eq_some_iff.1 g1).1 (fun h=>hne ((livec b).1 h))
      exact ⟨C,by rw [hsame]; exact g1,g2,fun i d hd=>⟨(g3 i d hd).1,(g3 i d hd).2.mono e⟩⟩
  · by_cases hj:j = k
    · subst hj
      rw [hset] at h1
      simp at h1
      subst h1
      exact hh'.none 0 B' rfl hl' (hf0.trans h3)
    · rw [List.getElem?_set_ne (by omega)] at h1
      exact hh.none j D h1 h2 h3
  · have back:∀ {i:Nat} {D:Blk},(hp.set k B')[i]? = some D->D.live = true->∃ D0,hp[i]? = some D0/\D0.live = true:=fun {i D} h1 h2=>by
      by_cases hi:i = k
      · subst hi; exact ⟨B,hk,hl⟩
      · rw [List.getElem?_set_ne (by omega)] at h1; exact ⟨D,h1,h2⟩
    obtain ⟨D0,q1,q2⟩:=back h1 h3
    obtain ⟨D1,q3,q4⟩:=back h2 h4
    exact hh.inj i j D0 D1 b q1 q3 q2 q4 h5 h6
  · by_cases hj:j = k
    · subst hj; exact hh.avoid j B b hk hl h3
    · rw [List.getElem?_set_ne (by omega)] at h1; exact hh.avoid j D b h1 h2 h3
def DV.flat:DV->Bool
  | .pv (.lit _) | .pv (.str _)=>true
  | .agg cs | .tup cs=>go cs
  | _=>false
where
  go:List DV->Bool
    | []=>true
    | d :: r=>d.flat && go r
theorem DV.flat_go {ds:List DV} (h:DV.flat.go ds = true):∀ (i:Nat) (d:DV),ds[i]? = some d->d.flat = true:=by
  induction ds with
  | nil=>intro i d h; simp at h
  | cons x r ih =>
    simp only [DV.flat.go,Bool.and_eq_true] at h
    intro i d hd
    cases i with
    | zero=>simp at hd; subst hd; exact h.1
    | succ i=>exact ih h.2 i d (by simpa using hd)
theorem RelD.flat {w w':World} {β β':Map} {hp hp':Qa} {d:DV} {v:Value} (h:RelD w β hp d v) (hf:d.flat = true):RelD w' β' hp' d v:=by
  induction h with
  | pv q v h=>cases h with
    | lit _ h=>exact .pv _ _ (.lit _ h)
    | str l=>exact .pv _ _ (.str l)
    | _=>simp [DV.flat] at hf
  | agg ds vs h _ ih=>exact .agg _ vs h (fun i d hd=>ih i d hd (DV.flat_go (by simpa [DV.flat] using hf) i d hd))
  | tup ds vs h _ ih=>exact .tup _ vs h (fun i d hd=>ih i d hd (DV.flat_go (by simpa [DV.flat] using hf) i d hd))
  | _=>simp [DV.flat] at hf
theorem VCalls.new {P:Program} {g:FuncId} {args:List DV} {hp:Qa} {R:Blk->Prop} (c:VCalls P g args [] fun r h'=>∃ B,h' = [B]/\r = .ptr 0 0/\B.live = true/\DV.nums.go (fun _=>false) B.cells = true/\R B)
    (ha:DV.nums.go (fun _=>false) args = true):VCalls P g args hp fun r h'=>∃ B,h' = hp ++ [B]/\r = .ptr hp.length 0/\B.live = true/\DV.nums.go (fun _=>false) B.cells = true/\R B:=by
  refine ⟨fun w β vs hh hr=>?_⟩
  let βc:Map:=⟨fun _=>none,img β hp⟩
  have himc:∀ b,img βc [] b->img β hp b:=fun b hb=>by
    rcases hb with hb | ⟨k,B,h1,_⟩
    · exact hb
    · simp at h1
  have hhc:HeapRel w βc []:=⟨by simp,by simp,by simp,by simp,fun b hb=>by
    rcases hb with hb | hb
    · exact hh.bound b hb
    · exact QbK hh hb⟩
  refine (c.run w βc vs hhc ⟨hr.1,fun i d hd=>(hr.2 i d hd).closed (DV.nums_go ha i d hd) himc⟩).mono ?_
  rintro e w' ⟨v,r,h',β',rfl,ev,hh',hrel,B,rfl,rfl,hl,hB,hR⟩
  have heap_same:∀ b,b < w.heap.size->w'.heap[b]? = w.heap[b]?:=fun b hb=>ev.same b hb (by rintro ⟨k,B,h1,_⟩; simp at h1)
  cases hrel with
  | ptr _ _ b0 _ hb0 =>
    obtain ⟨C0,c1,c2,c3⟩:=hh'.blk 0 B b0 rfl hl hb0
    have hnew:¬ b0 < w.heap.size:=fun hlt=>by
      have:=ev.im b0 hlt ⟨0,B,rfl,hl,hb0⟩
      obtain ⟨k,D,h1,_⟩:=this
      simp at h1
    have e:Evo w β hp w' (ext β hp.length (some b0)) (hp ++ [B]):=by
      refine ⟨ev.os,ev.tape,ev.output,ev.size,by simp,fun k hk=>QaN hk,fun b hb _=>heap_same b hb,fun b C T m h=>⟨C,m,by rw [heap_same b (Array.getElem?_eq_some_iff.1 h).1]; exact h,rfl⟩,fun b hb h=>?_,rfl⟩
      rcases (Qen hl).1 h with h | h
      · exact h
      · omega
    have him':∀ b,img β hp b->img β' [B] b:=fun b hb=>.inl (by rw [ev.X]; exact hb)
    have him2:∀ b,img (ext β hp.length (some b0)) (hp ++ [B]) b->img β' [B] b:=fun b hb=>by
      rcases hb with hb | hb
      · exact him' b (.inl hb)
      · rcases (Qen hl).1 hb with hb | hb
        · exact him' b (.inr hb)
        · rw [hb]; exact .inr ⟨0,B,rfl,hl,hb0⟩
    refine ⟨_,.ptr hp.length 0,hp ++ [B],ext β hp.length (some b0),rfl,e,?_,.ptr _ _ b0 (by simp) (by simp [ext]),B,rfl,rfl,hl,hB,hR⟩
    have lt_of:∀ {k:Nat} {D:Blk},(hp ++ [B])[k]? = some D->(k < hp.length/\hp[k]? = some D/\(ext β hp.length (some b0)).f k = β.f k)\/(k = hp.length/\D = B/\(ext β hp.length (some b0)).f k = some b0):=fun {k D} h=>by
      rcases Nat.lt_trichotomy k hp.length with hlt | heq | hgt
      · rw [List.getElem?_append_left hlt] at h
        exact .inl ⟨hlt,h,QaN hlt⟩
      · subst heq
        simp at h
        exact .inr ⟨rfl,h.symm,by simp [ext]⟩
      · rw [List.getElem?_append_right (by omega),List.getElem?_eq_none (by simp; omega)] at h
        simp at h
    refine ⟨fun k D b hk hD hb=>?_,fun k D hk hD hb=>?_,fun j k D D' b hj hk hD hD' h1 h2=>?_,fun k D b hk hD hb=>?_,fun b hb=>Nat.lt_of_lt_of_le (hh.bound b hb) ev.size⟩
    · rcases lt_of hk with ⟨_,hk',he⟩ | ⟨rfl,rfl,he⟩
      · rw [he] at hb
        obtain ⟨C,g1,g2,g3⟩:=hh.blk k D b hk' hD hb
        exact ⟨C,by rw [heap_same b (Array.getElem?_eq_some_iff.1 g1).1]; exact g1,g2,fun i d hd=>⟨(g3 i d hd).1,(g3 i d hd).2.mono e⟩⟩
      · rw [he] at hb
        simp at hb
        subst hb
        exact ⟨C0,c1,c2,fun i d hd=>⟨(c3 i d hd).1,(c3 i d hd).2.closed (DV.nums_go hB i d hd) him2⟩⟩
    · rcases lt_of hk with ⟨_,hk',he⟩ | ⟨rfl,rfl,he⟩
      · exact hh.none k D hk' hD (by rw [<- he]; exact hb)
      · rw [he] at hb; simp at hb
    · rcases lt_of hj with ⟨_,hj',hje⟩ | ⟨rfl,rfl,hje⟩<;>rcases lt_of hk with ⟨_,hk',hke⟩ | ⟨rfl,rfl,hke⟩
      · exact hh.inj j k D D' b hj' hk' hD hD' (by rw [<- hje]; exact h1) (by rw [<- hke]; exact h2)
      · exfalso
        rw [hke] at h2
        simp at h2
        exact hnew (h2 ▸ QbK hh ⟨j,D,hj',hD,by rw [<- hje]; exact h1⟩)
      · exfalso
        rw [hje] at h1
        simp at h1
        exact hnew (h1 ▸ QbK hh ⟨k,D',hk',hD',by rw [<- hke]; exact h2⟩)
      · rfl
    · rcases lt_of hk with ⟨_,hk',he⟩ | ⟨rfl,rfl,he⟩
      · exact hh.avoid k D b hk' hD (by rw [<- he]; exact hb)
      · rw [he] at hb
        simp at hb
        intro hX
        exact hnew (hb ▸ hh.bound b hX)
end Go.V
namespace Go.V
def QAI (c a b:DV) (hp:Qa):Option (DV × Qa):=
  match c with
  | .pv (.lit (.bool t))=>some (Qkg t (Qm t a) (Qm (!t) b),hp)
  | _=>none
def QDI (x:DV) (hp:Qa):Option (DV × Qa):=
  match x with
  | .ptr k off=>some (.ptr k off,hp)
  | .ip cs=>some (.ip cs,hp)
  | _=>none
def QlS (x:DV):List Nat:=match x with | .ptr k _=>[k] | _=>[]
def QBC (x:DV):List Nat:=match x with | .own k _ _ _=>[k] | .ptr k _=>[k] | _=>[]
def QDL (f:DV) (args:List DV):Option (FuncId × List DV):=
  match f with
  | .fn (.func g) first cap=>some (g,first ++ args ++ cap)
  | _=>none
def QCI (d:Option DV) (want:Bool):Option Bool:=
  match d with
  | some (.pv (.lit (.bool b)))=>some (b == want)
  | some (.opt g (.pv (.lit (.bool b))))=>some (g && (b == want))
  | some (.opt false (.tup _))=>some false
  | some (.tup [])=>some false
  | _=>none
def evG (G:Bool) (S:St) (x:Operand):DV:=Qm G (S.ev x)
def Qxp (P:Program) (all:List Oper) (o:Oper) (r:List Oper) (K:St->Prop) (S:St) (d:DV) (hp:Qa):Prop:=Qag P all r K ((S.at hp).put o.dst (Qcn o.guard true d))
def QpJ (P:Program) (all:List Oper) (o:Oper) (r:List Oper) (K:St->Prop) (S:St) (x:Option (DV × Qa)):Prop:=
  match x with
  | some (d,hp)=>Qag P all r K ((S.at hp).put o.dst (Qcn o.guard true d))
  | none=>False
def QnI (P:Program) (all:List Oper) (o:Oper) (r:List Oper) (K:St->Prop) (S:St) (c:Option (FuncId × List DV)):Prop:=
  match c with
  | some (g,args)=>VCalls P g args S.hp (Qxp P all o r K S)
  | none=>QpJ P all o r K S (vop P (evG true S) S.hp o.op)
def QeE (P:Program) (all:List Oper) (o:Oper) (r:List Oper) (K:St->Prop) (S:St) (G:Bool):Prop:=
  match G with
  | false=>Qag P all r K (S.put o.dst (.tup []))
  | true=>QnI P all o r K S (Ql (evG true S) o.op)
def QpK (P:Program) (all:List Oper) (o:Oper) (r:List Oper) (K:St->Prop) (S:St) (g:Option Bool):Prop:=
  match g with
  | none=>False
  | some G=>QeE P all o r K S G
def vdc (P:Program) (g:FuncId) (args:List DV) (K:DV->Prop):Prop:=∃ d,(VCalls P g args [] fun r h=>h = []/\r = d)/\DV.nums.go (fun _=>false) args = true/\d.nums (fun _=>false) = true/\K d
def QEd (P:Program) (all:List Oper) (o:Oper) (r:List Oper) (fs:List (List Nat × Bool)) (K:St->Prop) (S:St) (d:DV):Prop:=vdr P all r (fs ++ [([],false)]) K (S.put o.dst (Qcn o.guard true d))
def QAO (P:Program) (all:List Oper) (o:Oper) (r:List Oper) (fs:List (List Nat × Bool)) (K:St->Prop) (S:St) (f:List Nat × Bool) (x:Option (DV × Qa)):Prop:=
  match x with
  | some (d,hp)=>Q6 o.op = true/\QR o.after f 0 fs = true/\vdr P all r (fs ++ [f]) K ((S.at hp).put o.dst (Qcn o.guard true d))
  | none=>False
def QAP (P:Program) (all:List Oper) (o:Oper) (r:List Oper) (fs:List (List Nat × Bool)) (K:St->Prop) (S:St) (c:Option (FuncId × List DV)):Prop:=
  match c with
  | some (g,args)=>vdc P g args (QEd P all o r fs K S)
  | none=>QAO P all o r fs K S (QbM (evG true S) o.op) (vop P (evG true S) S.hp o.op)
def QnW (P:Program) (all:List Oper) (o:Oper) (r:List Oper) (fs:List (List Nat × Bool)) (K:St->Prop) (S:St) (G:Bool):Prop:=
  match G with
  | false=>vdr P all r (fs ++ [([],false)]) K (S.put o.dst (.tup []))
  | true=>QAP P all o r fs K S (Ql (evG true S) o.op)
def QAQ (P:Program) (all:List Oper) (o:Oper) (r:List Oper) (fs:List (List Nat × Bool)) (K:St->Prop) (S:St) (g:Option Bool):Prop:=
  match g with
  | none=>False
  | some G=>QnW P all o r fs K S G
def vbr (P:Program) (a b:Code) (Q:Exit->St->Prop) (S:St) (t:Bool):Prop:=QtY t (Qx P a Q S) (Qx P b Q S)
def QpA (P:Program) (a b:Code) (Q:Exit->St->Prop) (S:St) (c:DV):Prop:=match c with | .pv (.lit (.bool t))=>vbr P a b Q S t | _=>False
def QtU (n:Nat) (hp:Qa) (R:DV->Qa->Prop) (r:Option DV):Prop:=match r with | some d=>Qtw n hp d R | none=>False
def Qp5 (hp:Qa) (R:DV->Qa->Prop) (r:Option DV):Prop:=match r with | some d=>R d hp | none=>False
def QnV (R:DV->Qa->Prop) (r:Option DV) (h:Option Qa):Prop:=match r,h with | some d,some hp=>R d hp | _,_=>False
def Qss (n:Nat) (hp:Qa) (d:DV):Option DV:=match d with | .agg es=>(Qh (es.map (Qcq n hp))).map .agg | d=>Qcq n hp d
def vld (b:Option (List DV)) (t:Option (Option Nat)) (off:Nat):Option DV:=
  match b,t with
  | some cs,some none=>cs[off]?
  | some cs,some (some n)=>if off + n<=cs.length then some (.agg ((cs.drop off).take n)) else none
  | _,_=>none
def QC2 (cs:List PV) (t:Option (Option Nat)):Option DV:=
  match t with
  | some none=>cs[0]?.map .pv
  | some (some n)=>if n<=cs.length then some (.agg ((cs.take n).map .pv)) else none
  | none=>none
def vst (hp:Qa) (k:Nat) (b:Option (List DV)) (t:Option (Option Nat)) (off:Nat) (d:DV):Option Qa :=
  match b,t with
  | some cs,some none=>if off < cs.length/\d.one = true then some (Qp hp k (cs.set off d)) else none
  | some cs,some (some n) =>
    match d with
    | .agg ds=>if off + n<=cs.length/\ds.length = n/\Qn ds = true then some (Qp hp k (splice cs off ds)) else none
    | _=>none
  | _,_=>none
def QnR (b:Bool) (d:DV) (r:List (Nat × DV)) (t:Nat):DV:=bif b then d else V.look r t
def QC1 (b g:Bool) (d:DV):DV:=bif b then d else .opt g d
inductive VK | int (k:IntKind) | str | arr (n:Nat) | sl (e:TypeId) | bool | other
def Qad (P:Program) (T:TypeId):VK:=
  match P.underlying T with
  | some (.int k)=>.int k
  | some .string=>.str
  | some (.array n _)=>.arr n
  | some (.slice e)=>.sl e
  | some .bool=>.bool
  | _=>.other
def QzB (ty:TypeId) (x:Option (List DV)):Option Qa:=match x with | some cs=>some [⟨ty,true,cs⟩] | none=>none
def QnH (e:Option (Option Nat × TypeId × Nat)) (xs:List (List PV)) (a b:Nat):Option DV:=
  match e with
  | some (none,_,sz)=>if a<=b/\b<=xs.length/\(xs = []\/(xs[0]?.map List.length) = some sz) then some (.pv (.sl ((xs.take b).drop a))) else none
  | _=>none
def Qwy (u:VK) (xs:List UInt8) (a b:Nat):Option DV:=match u with | .str=>if a<=b/\b<=xs.length then some (.pv (.str ((xs.take b).drop a))) else none | _=>none
def vba (op:BinOp) (t:Option (Option Nat)) (l:Option (List (Nat × Nat))) (g:Bool) (xs ys:List DV):Option DV :=
  match t,l with
  | some (some _),some l =>
    if g then none else
    match op,QJ xs ys l with
    | .eql,some b=>some (.bool b)
    | .neq,some b=>some (.bool (!b))
    | _,_=>none
  | _,_=>none
def QC3 (f:Option (TypeId × Nat × Nat)) (k off:Nat):Option DV:=match f with | some (_,o,s)=>if s = 0 then none else some (.ptr k (off + o)) | none=>none
def QC4 (f:Option (TypeId × Nat × Nat)) (cs:List PV):Option DV:=match f with | some (_,o,s)=>if s = 0 then none else some (.ip (cs.drop o)) | none=>none
def vfv (P:Program) (cs:List DV) (f:Option (TypeId × Nat × Nat)):Option DV:=match f with | some (t,o,_)=>Qhd P t cs o | none=>none
def vpt (t:Option (Option Nat)) (cs:List DV) (off:Nat):Option DV:=
  match t with
  | some none=>cs[off]?
  | some (some n)=>if off + n<=cs.length then some (.agg ((cs.drop off).take n)) else none
  | none=>none
def QAM (e:Option (Option Nat × TypeId × Nat)) (c:Option (List PV)) (i:Int):Option DV:=
  match e,c with
  | some (none,_,sz),some c=>if 0<=i/\c.length = sz/\0 < sz then some (.ip c) else none
  | _,_=>none
def QCH (e:Option (Option Nat × TypeId × Nat)) (b sz' off len:Nat) (i:Int):Option DV:=
  match e with
  | some (none,_,sz)=>if sz' = sz/\0<=i/\i < len then some (.ptr b (off + i.toNat * sz)) else none
  | _=>none
def QCG (e:Option (Option Nat × TypeId × Nat)) (b off:Nat) (i:Int):Option DV:=
  match e with
  | some (some n,_,sz)=>if 0<=i/\i < n then some (.ptr b (off + i.toNat * sz)) else none
  | _=>none
def QCF (P:Program) (e:Option (Option Nat × TypeId × Nat)) (cs:List DV) (i:Int):Option DV:=
  match e with
  | some (some n,t,sz)=>if 0<=i/\i < n then Qhd P t cs (i.toNat * sz) else none
  | _=>none
def QCE (u:VK) (b:Option UInt8) (i:Int):Option DV:=
  match u,b with
  | .str,some b=>if 0<=i then some (.pv (.lit (.int .u8 b.toNat))) else none
  | _,_=>none
def vlk (u:VK) (d:DV):Option DV:=match u with | .sl _=>some d | .arr n=>some (.int .i64 n) | _=>none
def vls (u:VK) (l:List UInt8):Option DV:=match u with | .str=>some (.int .i64 l.length) | .arr n=>some (.int .i64 n) | _=>none
def vci (s t:VK) (n:Int) (hp:Qa):Option (DV × Qa):=match s,t with | .int _,.int k=>some (.int k (k.wrap n),hp) | _,_=>none
def QC8 (hp:Qa) (T:TypeId) (z:Option (List DV)):Option (DV × Qa):=match z with | some cs=>if Qn cs = true then some (.ptr hp.length 0,hp ++ [⟨T,true,cs⟩]) else none | none=>none
theorem Qf2 {P:Program} {all:List Oper} {o:Oper} {r:List Oper} {K:St->Prop} {S:St} {G:Bool} (h:G = true->QeE P all o r K S true) (h':G = false->QeE P all o r K S false):QeE P all o r K S G:=by cases G; exact h' rfl; exact h rfl
theorem QhQ {P:Program} {all:List Oper} {o:Oper} {r:List Oper} {fs:List (List Nat × Bool)} {K:St->Prop} {S:St} {G:Bool} (h:G = true->QnW P all o r fs K S true) (h':G = false->QnW P all o r fs K S false):QnW P all o r fs K S G:=by cases G; exact h' rfl; exact h rfl
theorem Qa7 {P:Program} {a b:Code} {Q:Exit->St->Prop} {S:St} {t:Bool} (h:t = true->Qx P a Q S) (h':t = false->Qx P b Q S):vbr P a b Q S t:=⟨h,h'⟩
theorem QtN {P:Program} {ev:Operand->DV} {hp:Qa} {x:Operand}:vop P ev hp (.move x) = some (ev x,hp):=rfl
theorem QjH {ev:Operand->DV} {x:Operand}:Ql ev (.move x) = none:=rfl
theorem QlZ {x:Operand}:Q6 (.move x) = true:=rfl
theorem QsD {ev:Operand->DV} {x:Operand}:QbM ev (.move x) = ([],false):=rfl
theorem QnN {P:Program} {ev:Operand->DV} {hp:Qa} {x:Operand}:vop P ev hp (.assign x) = some (ev x,hp):=rfl
theorem Qhi {ev:Operand->DV} {x:Operand}:Ql ev (.assign x) = none:=rfl
theorem QiZ {x:Operand}:Q6 (.assign x) = true:=rfl
theorem Qmj {ev:Operand->DV} {x:Operand}:QbM ev (.assign x) = ([],false):=rfl
theorem QtM {P:Program} {ev:Operand->DV} {hp:Qa} {c:Operand} {a:Operand} {b:Operand}:vop P ev hp (.pick c a b) = QAI (ev c) (ev a) (ev b) hp:=rfl
theorem QjG {ev:Operand->DV} {c:Operand} {a:Operand} {b:Operand}:Ql ev (.pick c a b) = none:=rfl
theorem QlY {c:Operand} {a:Operand} {b:Operand}:Q6 (.pick c a b) = true:=rfl
theorem QsC {ev:Operand->DV} {c:Operand} {a:Operand} {b:Operand}:QbM ev (.pick c a b) = ([],false):=rfl
theorem QpU {P:Program} {ev:Operand->DV} {hp:Qa} {T:TypeId}:vop P ev hp (.alloc T) = Qga P hp T:=rfl
theorem Qiz {ev:Operand->DV} {T:TypeId}:Ql ev (.alloc T) = none:=rfl
theorem Qxv {P:Program} {ev:Operand->DV} {hp:Qa} {T:TypeId} {x:Operand}:vop P ev hp (.box T x) = QAr hp T (ev x):=rfl
theorem Qlv {ev:Operand->DV} {T:TypeId} {x:Operand}:Ql ev (.box T x) = none:=rfl
theorem QpS {P:Program} {ev:Operand->DV} {hp:Qa} {T:TypeId} {ps:Array (Nat × Operand)}:vop P ev hp (.build T ps) = (QjL P T (V.parts ev ps)).map fun d=>(d,hp):=rfl
theorem Qix {ev:Operand->DV} {T:TypeId} {ps:Array (Nat × Operand)}:Ql ev (.build T ps) = none:=rfl
theorem Qkp {T:TypeId} {ps:Array (Nat × Operand)}:Q6 (.build T ps) = true:=rfl
theorem QoO {ev:Operand->DV} {T:TypeId} {ps:Array (Nat × Operand)}:QbM ev (.build T ps) = ([],false):=rfl
theorem Qhe {P:Program} {ev:Operand->DV} {hp:Qa} {T:TypeId} {n:Nat} {ps:Array (Nat × Operand)}:vop P ev hp (.buildSlice T n ps) = QaT P hp T n (V.parts ev ps):=rfl
theorem QdY {ev:Operand->DV} {T:TypeId} {n:Nat} {ps:Array (Nat × Operand)}:Ql ev (.buildSlice T n ps) = none:=rfl
theorem QtO {P:Program} {ev:Operand->DV} {hp:Qa} {T:TypeId} {a:Operand}:vop P ev hp (.load T a) = (QdX P hp T (ev a)).map fun d=>(d,hp):=rfl
theorem QjI {ev:Operand->DV} {T:TypeId} {a:Operand}:Ql ev (.load T a) = none:=rfl
theorem Ql0 {T:TypeId} {a:Operand}:Q6 (.load T a) = true:=rfl
theorem QpO {P:Program} {ev:Operand->DV} {hp:Qa} {T:TypeId} {a:Operand} {x:Operand}:vop P ev hp (.store T a x) = (Qe5 P hp T (ev a) (ev x)).map fun h=>(.tup [],h):=rfl
theorem Qit {ev:Operand->DV} {T:TypeId} {a:Operand} {x:Operand}:Ql ev (.store T a x) = none:=rfl
theorem Qkn {T:TypeId} {a:Operand} {x:Operand}:Q6 (.store T a x) = true:=rfl
theorem Qju {P:Program} {ev:Operand->DV} {hp:Qa} {x:Operand}:vop P ev hp (.nilCheck x) = QDI (ev x) hp:=rfl
theorem Qft {ev:Operand->DV} {x:Operand}:Ql ev (.nilCheck x) = none:=rfl
theorem Qgz {x:Operand}:Q6 (.nilCheck x) = true:=rfl
theorem Qi9 {ev:Operand->DV} {x:Operand}:QbM ev (.nilCheck x) = ([],false):=rfl
theorem QpT {P:Program} {ev:Operand->DV} {hp:Qa} {op:BinOp} {T:TypeId} {x:Operand} {y:Operand} {yT:TypeId}:vop P ev hp (.binOp op T x y yT) = (Qlx P op T (ev x) y (ev y)).map fun d=>(d,hp):=rfl
theorem Qiy {ev:Operand->DV} {op:BinOp} {T:TypeId} {x:Operand} {y:Operand} {yT:TypeId}:Ql ev (.binOp op T x y yT) = none:=rfl
theorem Qkq {op:BinOp} {T:TypeId} {x:Operand} {y:Operand} {yT:TypeId}:Q6 (.binOp op T x y yT) = true:=rfl
theorem QoP {ev:Operand->DV} {op:BinOp} {T:TypeId} {x:Operand} {y:Operand} {yT:TypeId}:QbM ev (.binOp op T x y yT) = ([],false):=rfl
theorem QtL {P:Program} {ev:Operand->DV} {hp:Qa} {op:UnOp} {T:TypeId} {x:Operand}:vop P ev hp (.unOp op T x) = (vun op (ev x)).map fun d=>(d,hp):=rfl
theorem QjF {ev:Operand->DV} {op:UnOp} {T:TypeId} {x:Operand}:Ql ev (.unOp op T x) = none:=rfl
theorem QsB {ev:Operand->DV} {op:UnOp} {T:TypeId} {x:Operand}:QbM ev (.unOp op T x) = ([],false):=rfl
theorem Qlm {P:Program} {ev:Operand->DV} {hp:Qa} {S:TypeId} {T:TypeId} {x:Operand}:vop P ev hp (.convert S T x) = Qls P hp S T (ev x):=rfl
theorem Qf8 {ev:Operand->DV} {S:TypeId} {T:TypeId} {x:Operand}:Ql ev (.convert S T x) = none:=rfl
theorem Qhv {S:TypeId} {T:TypeId} {x:Operand}:Q6 (.convert S T x) = true:=rfl
theorem Qjv {P:Program} {ev:Operand->DV} {hp:Qa} {f:Fn} {first:Array Operand} {cap:Array Operand}:vop P ev hp (.makeFunc f first cap) = some (.fn f (first.toList.map ev) (cap.toList.map ev),hp):=rfl
theorem Qfu {ev:Operand->DV} {f:Fn} {first:Array Operand} {cap:Array Operand}:Ql ev (.makeFunc f first cap) = none:=rfl
theorem Qim {P:Program} {ev:Operand->DV} {hp:Qa} {T:TypeId} {l:Operand} {c:Operand}:vop P ev hp (.makeSlice T l c) = QpX P hp T (ev l) (ev c):=rfl
theorem QeI {ev:Operand->DV} {T:TypeId} {l:Operand} {c:Operand}:Ql ev (.makeSlice T l c) = none:=rfl
theorem QpP {P:Program} {ev:Operand->DV} {hp:Qa} {T:TypeId} {x:Operand} {lo:Option Operand} {hi:Option Operand} {mx:Option Operand}:vop P ev hp (.slice T x lo hi mx) = (Qct P hp T (ev x) (lo.map ev) (hi.map ev) (mx.map ev)).map fun d=>(d,hp):=rfl
theorem Qiu {ev:Operand->DV} {T:TypeId} {x:Operand} {lo:Option Operand} {hi:Option Operand} {mx:Option Operand}:Ql ev (.slice T x lo hi mx) = none:=rfl
theorem Qko {T:TypeId} {x:Operand} {lo:Option Operand} {hi:Option Operand} {mx:Option Operand}:Q6 (.slice T x lo hi mx) = true:=rfl
theorem Qio {P:Program} {ev:Operand->DV} {hp:Qa} {T:TypeId} {x:Operand} {f:Nat}:vop P ev hp (.fieldAddr T x f) = (Qai P T f (ev x)).map fun d=>(d,hp):=rfl
theorem QeK {ev:Operand->DV} {T:TypeId} {x:Operand} {f:Nat}:Ql ev (.fieldAddr T x f) = none:=rfl
theorem Qfz {T:TypeId} {x:Operand} {f:Nat}:Q6 (.fieldAddr T x f) = true:=rfl
theorem QhC {ev:Operand->DV} {T:TypeId} {x:Operand} {f:Nat}:QbM ev (.fieldAddr T x f) = ([],false):=rfl
theorem QpR {P:Program} {ev:Operand->DV} {hp:Qa} {T:TypeId} {x:Operand} {f:Nat}:vop P ev hp (.field T x f) = (Qdz P T f (ev x)).map fun d=>(d,hp):=rfl
theorem Qiw {ev:Operand->DV} {T:TypeId} {x:Operand} {f:Nat}:Ql ev (.field T x f) = none:=rfl
theorem Qin {P:Program} {ev:Operand->DV} {hp:Qa} {T:TypeId} {x:Operand} {i:Operand}:vop P ev hp (.indexAddr T x i) = (Qah P T (ev x) (ev i)).map fun d=>(d,hp):=rfl
theorem QeJ {ev:Operand->DV} {T:TypeId} {x:Operand} {i:Operand}:Ql ev (.indexAddr T x i) = none:=rfl
theorem Qfy {T:TypeId} {x:Operand} {i:Operand}:Q6 (.indexAddr T x i) = true:=rfl
theorem QhB {ev:Operand->DV} {T:TypeId} {x:Operand} {i:Operand}:QbM ev (.indexAddr T x i) = ([],false):=rfl
theorem QpQ {P:Program} {ev:Operand->DV} {hp:Qa} {T:TypeId} {x:Operand} {i:Operand}:vop P ev hp (.index T x i) = (Qcx P T (ev x) (ev i)).map fun d=>(d,hp):=rfl
theorem Qiv {ev:Operand->DV} {T:TypeId} {x:Operand} {i:Operand}:Ql ev (.index T x i) = none:=rfl
theorem Qll {P:Program} {ev:Operand->DV} {hp:Qa} {x:Operand} {i:Nat}:vop P ev hp (.extract x i) = (Qc0 (ev x) i).map fun d=>(d,hp):=rfl
theorem Qf7 {ev:Operand->DV} {x:Operand} {i:Nat}:Ql ev (.extract x i) = none:=rfl
theorem Qhu {x:Operand} {i:Nat}:Q6 (.extract x i) = true:=rfl
theorem QkQ {ev:Operand->DV} {x:Operand} {i:Nat}:QbM ev (.extract x i) = ([],false):=rfl
theorem QsE {ev:Operand->DV} {T:TypeId} {a:Operand}:QbM ev (.load T a) = (QlS (ev a),false):=rfl
theorem QoL {ev:Operand->DV} {T:TypeId} {a x:Operand}:QbM ev (.store T a x) = (QlS (ev a),true):=rfl
theorem QkR {ev:Operand->DV} {S T:TypeId} {x:Operand}:QbM ev (.convert S T x) = (QBC (ev x),false):=rfl
theorem QoM {ev:Operand->DV} {T:TypeId} {x:Operand} {lo hi mx:Option Operand}:QbM ev (.slice T x lo hi mx) = (QlS (ev x),false):=rfl
theorem QsF {ev:Operand->DV} {c:Call}:QbM ev (.call c) = ([],false):=rfl
theorem Qot {a:Array Operand} {t:Array TypeId}:Q6 (.call ⟨.builtin .len,a,t⟩) = true:=rfl
theorem Qln {P:Program} {ev:Operand->DV} {hp:Qa} {b:Builtin} {a:Array Operand} {t:Array TypeId}:vop P ev hp (.call ⟨.builtin b,a,t⟩) = QaK P hp b t (a.toList.map ev):=rfl
theorem Qf9 {ev:Operand->DV} {b:Builtin} {a:Array Operand} {t:Array TypeId}:Ql ev (.call ⟨.builtin b,a,t⟩) = none:=rfl
theorem Qis {ev:Operand->DV} {f:Operand} {a:Array Operand} {t:Array TypeId}:Ql ev (.call ⟨.value f,a,t⟩) = QDL (ev f) (a.toList.map ev):=rfl
theorem QxP {g:FuncId} {first cap args:List DV}:QDL (.fn (.func g) first cap) args = some (g,first ++ args ++ cap):=rfl
theorem QrB {k off:Nat}:QlS (.ptr k off) = [k]:=rfl
theorem Qvb {cs:List PV}:QlS (.ip cs) = []:=rfl
theorem QzU {P:Program} {hp:Qa} {S T:TypeId} {p:PV}:Qls P hp S T (.pv p) = Qa3 P hp S T (.pv p):=rfl
theorem QzF {n:Nat} {hp:Qa} {f:Fn}:Qcq n hp (.fn f [] []) = some (.fn f [] []):=rfl
theorem Qwk {P:Program} {op:BinOp} {T:TypeId} {a b:DV} {t:Nat}:Qlx P op T a (.tmp t) b = QtA P op T a b:=rfl
theorem Qwm {P:Program} {op:BinOp} {T:TypeId} {a b:DV} {k:IntKind} {n:Int}:Qlx P op T a (.const (.int k n)) b = QtA P op T a b:=rfl
theorem Qwl {P:Program} {op:BinOp} {T:TypeId} {a b:DV} {s:ByteArray}:Qlx P op T a (.const (.string s)) b = QtA P op T a b:=rfl
theorem Qv8 {P:Program} {hp:Qa} {S T:TypeId} {k a b c:Nat}:Qls P hp S T (.own k a b c) = Qa3 P hp S T (.own k a b c):=rfl
theorem Qve {p:PV}:QBC (.pv p) = []:=rfl
theorem QtP {k off:Nat} {hp:Qa}:QDI (.ptr k off) hp = some (.ptr k off,hp):=rfl
theorem QnM {t:Bool} {x y:DV} {hp:Qa}:QAI (.pv (.lit (.bool t))) x y hp = some (Qkg t (Qm t x) (Qm (!t) y),hp):=rfl
theorem Quc {G:Bool} {p:PV}:Qm G (.pv p) = .pv p:=rfl
theorem Qqs {G:Bool} {k o:Nat}:Qm G (.ptr k o) = .ptr k o:=rfl
theorem Qqt {G:Bool} {k a b c:Nat}:Qm G (.own k a b c) = .own k a b c:=rfl
theorem Qud {G:Bool} {cs:List PV}:Qm G (.ip cs) = .ip cs:=rfl
theorem Qqv {G:Bool} {cs:List DV}:Qm G (.agg cs) = .agg cs:=rfl
theorem Qqr {G:Bool} {cs:List DV}:Qm G (.tup cs) = .tup cs:=rfl
theorem Que {G:Bool} {f:Fn} {a b:List DV}:Qm G (.fn f a b) = .fn f a b:=rfl
theorem Qqu {G g:Bool} {d:DV}:Qm G (.opt g d) = QC1 (!G || g) g d:=by
  unfold Qm QC1
  cases G<;>cases g<;>rfl
theorem QpB {g:Bool} {d:DV}:QC1 true g d = d:=rfl
theorem QrK {G:Bool} {d:DV}:Qcn none G d = d:=rfl
theorem QrJ {g:Nat × Bool} {G:Bool} {d:DV}:Qcn (some g) G d = .opt G d:=rfl
theorem Qoq {t p q:Bool}:Qkg t (.pv (.lit (.bool p))) (.pv (.lit (.bool q))) = .bool (bif t then p else q):=rfl
theorem QB2 {nt base:Nat} {tm:List (Nat × DV)} {hp:Qa} {t:Nat}:St.ev ⟨nt,base,tm,hp⟩ (.tmp t) = V.look tm t:=rfl
theorem QvW {S:St} {v:Value}:St.ev S (.const v) = QbI v:=rfl
theorem QzK {S:St} {f:FuncId}:St.ev S (.func f) = .fn (.func f) [] []:=rfl
theorem Ql3 {k:IntKind} {n:Int}:QbI (.int k n) = .pv (.lit (.int k n)):=rfl
theorem Qks {b:Bool}:QbI (.bool b) = .pv (.lit (.bool b)):=rfl
theorem Qhw {s:ByteArray}:QbI (.string s) = .pv (.str s.data.toList):=rfl
theorem Qi0:QbI (.slice none 0 0) = .pv (.slc []):=rfl
theorem QgB:QbI .nilFunc = .pv (.lit .nilFunc):=rfl
theorem Qu7 {nt base:Nat} {tm:List (Nat × DV)} {hp:Qa} {t:Nat} {d:DV}:St.put ⟨nt,base,tm,hp⟩ (some t) d = ⟨nt,base,(t,d) :: tm,hp⟩:=rfl
theorem Qu8 {S:St} {d:DV}:St.put S none d = S:=rfl
theorem QDx {nt base:Nat} {tm:List (Nat × DV)} {hp hp2:Qa}:St.at ⟨nt,base,tm,hp⟩ hp2 = ⟨nt,base,tm,hp2⟩:=rfl
theorem QsH {nt base:Nat} {tm:List (Nat × DV)} {hp:Qa} {t:Nat}:St.fits ⟨nt,base,tm,hp⟩ (some t) = decide (t < nt):=rfl
theorem QsI {S:St}:St.fits S none = true:=rfl
theorem QrW {a t:Nat} {d:DV} {r:List (Nat × DV)}:V.look ((a,d) :: r) t = QnR (a == t) d r t:=by
  unfold QnR
  simp only [V.look,Bool.cond_eq_ite,beq_iff_eq]
theorem QxB {t:Nat} {d:DV} {r:List (Nat × DV)}:QnR true d r t = d:=rfl
theorem QxC {t:Nat} {d:DV} {r:List (Nat × DV)}:QnR false d r t = V.look r t:=rfl
theorem QoH {all:List Oper} {S:St} {dst:Option Tmp} {op:Op} {ty:TypeId} {pos:String} {af:Array Edge}:QA all S ⟨dst,op,ty,pos,af,none⟩ = some true:=rfl
theorem QoG {all:List Oper} {S:St} {dst:Option Tmp} {op:Op} {ty:TypeId} {pos:String} {af:Array Edge} {j:Nat} {want:Bool}:QA all S ⟨dst,op,ty,pos,af,some (j,want)⟩ = QCI ((all[j]?.bind (·.dst)).map (V.look S.tm)) want:=rfl
theorem Qp3 {b want:Bool}:QCI (some (.pv (.lit (.bool b)))) want = some (b == want):=rfl
theorem QtS {g b want:Bool}:QCI (some (.opt g (.pv (.lit (.bool b))))) want = some (g && (b == want)):=rfl
theorem Qp2 {want:Bool}:QCI (some (.tup [])) want = some false:=rfl
theorem QtI {P:Program} {all:List Oper} {K:St->Prop} {S:St}:Qag P all [] K S = K S:=rfl
theorem QxI {P:Program} {all:List Oper} {fs:List (List Nat × Bool)} {K:St->Prop} {S:St}:vdr P all [] fs K S = K S:=rfl
theorem Qs0 {P:Program} {Q:Exit->St->Prop} {S:St}:Qx P .skip Q S = Q .normal S:=(rfl)
theorem Qmo {P:Program} {id:Nat} {ops:Array Oper} {Q:Exit->St->Prop} {S:St}:Qx P (.region id ops false) Q S = Qag P ops.toList ops.toList (Q .normal) S:=(rfl)
theorem Qs3 {P:Program} {id:Nat} {ops:Array Oper} {Q:Exit->St->Prop} {S:St}:Qx P (.region id ops true) Q S = VDraw P id ops Q S:=(rfl)
theorem Qwa {P:Program} {a b:Code} {Q:Exit->St->Prop} {S:St}:Qx P (.seq a b) Q S = Qx P a (Qab Q (Qx P b Q)) S:=(rfl)
theorem Qo0 {P:Program} {id:Nat} {c:Code} {Q:Exit->St->Prop} {S:St}:Qx P (.block id c) Q S = Qx P c (Qay id Q) S:=(rfl)
theorem Qs1 {P:Program} {c:Code} {Q:Exit->St->Prop} {S:St}:Qx P (.loop c) Q S = VLoop P c Q S:=(rfl)
theorem Qs2 {P:Program} {id:Nat} {Q:Exit->St->Prop} {S:St}:Qx P (.exit id) Q S = Q (.exit id) S:=(rfl)
theorem Qwb {P:Program} {Q:Exit->St->Prop} {S:St}:Qx P .ret Q S = Q .ret S:=(rfl)
theorem Qgx {Q:Exit->St->Prop} {K:St->Prop} {S:St}:Qab Q K .normal S = K S:=rfl
theorem Qkk {Q:Exit->St->Prop} {K:St->Prop} {S:St}:Qab Q K .ret S = Q .ret S:=rfl
theorem QiW {Q:Exit->St->Prop} {K:St->Prop} {S:St} {id:Nat}:Qab Q K (.exit id) S = Q (.exit id) S:=rfl
theorem Qht {id:Nat} {Q:Exit->St->Prop} {S:St}:Qay id Q .normal S = Q .normal S:=rfl
theorem QlX {id:Nat} {Q:Exit->St->Prop} {S:St}:Qay id Q .ret S = Q .ret S:=rfl
theorem Qkl {id id2:Nat} {Q:Exit->St->Prop} {S:St}:Qay id Q (.exit id2) S = if id2 = id then Q .normal S else Q (.exit id2) S:=rfl
theorem Qzz {n:Nat} {hp:Qa} {cs:List DV}:frz n hp (.agg cs) = (Qh (cs.map (Qcq n hp))).map .agg:=rfl
theorem QBY {n:Nat} {hp:Qa} {p:PV}:frz n hp (.pv p) = some (.pv p):=rfl
theorem Qzy {n:Nat} {hp:Qa} {k a b c:Nat}:frz n hp (.own k a b c) = Qcq n hp (.own k a b c):=rfl
theorem Qzx {n:Nat} {hp:Qa} {cs:List DV}:frz n hp (.tup cs) = (Qh (cs.map (Qss n hp))).map .tup:=by
  simp only [frz]; congr 2
theorem QvR {n:Nat} {hp:Qa} {cs:List DV}:Qss n hp (.agg cs) = (Qh (cs.map (Qcq n hp))).map .agg:=rfl
theorem QzA {n:Nat} {hp:Qa} {p:PV}:Qss n hp (.pv p) = some (.pv p):=rfl
theorem QvQ {n:Nat} {hp:Qa} {k a b c:Nat}:Qss n hp (.own k a b c) = Qcq n hp (.own k a b c):=rfl
theorem QzE {n:Nat} {hp:Qa} {p:PV}:Qcq n hp (.pv p) = some (.pv p):=rfl
theorem QvU {n:Nat} {hp:Qa} {k a b c:Nat}:Qcq n hp (.own k a b c) = if k < n then some (.own k a b c) else (Qld n hp 4 (.own k a b c)).map .pv:=rfl
theorem Qmu {α:Type}:Qh ([]:List (Option α)) = some []:=rfl
theorem Qfn {α:Type} {a:α} {r:List (Option α)}:Qh (some a :: r) = (Qh r).map (a :: ·):=rfl
theorem QkO {hp:Qa}:Qbc 0 hp = some []:=by
  simp [Qbc,Qh]
theorem QyB {P:Program} {S:St} {r:ResultVar}:QD P S [r] = Qjk P S r:=by
  unfold QD; cases h:Qjk P S r<;>simp [Qh,h]
theorem QyA {P:Program} {S:St} {r s:ResultVar} {rs:List ResultVar}:QD P S (r :: s :: rs) = (Qh ((r :: s :: rs).map (Qjk P S))).map .tup:=by
  unfold QD
  cases h:Qh ((r :: s :: rs).map (Qjk P S)) with
  | none=>rfl
  | some ds =>
    have hl:=(QF h).1
    match ds,hl with
    | a :: b :: t,_=>rfl
theorem QtJ {P:Program} {S:St} {t:Nat}:Qjk P S (.tmp t) = some (V.look S.tm t):=rfl
theorem QpL {P:Program} {S:St} {a:Nat} {T:TypeId}:Qjk P S (.cell a T) = QdX P S.hp T (V.look S.tm a):=rfl
theorem Qvt {P:Program} {hp:Qa} {T:TypeId} {k off:Nat}:QdX P hp T (.ptr k off) = vld (Qf hp k) (vt P T) off:=by
  unfold vld; rfl
theorem Qy2 {P:Program} {hp:Qa} {T:TypeId} {cs:List PV}:QdX P hp T (.ip cs) = QC2 cs (vt P T):=rfl
theorem QxE {cs:List DV} {off:Nat}:vld (some cs) (some none) off = cs[off]?:=rfl
theorem QxF {cs:List DV} {n off:Nat}:vld (some cs) (some (some n)) off = if off + n<=cs.length then some (.agg ((cs.drop off).take n)) else none:=rfl
theorem QtQ {cs:List PV}:QC2 cs (some none) = cs[0]?.map .pv:=rfl
theorem QtR {cs:List PV} {n:Nat}:QC2 cs (some (some n)) = if n<=cs.length then some (.agg ((cs.take n).map .pv)) else none:=rfl
theorem Qqw {P:Program} {hp:Qa} {T:TypeId} {k off:Nat} {d:DV}:Qe5 P hp T (.ptr k off) d = vst hp k (Qf hp k) (vt P T) off d:=by
  unfold vst; rfl
theorem Qxk {hp:Qa} {k off:Nat} {cs:List DV} {d:DV}:vst hp k (some cs) (some none) off d = if off < cs.length/\d.one = true then some (Qp hp k (cs.set off d)) else none:=rfl
theorem Qxl {hp:Qa} {k n off:Nat} {cs ds:List DV}:vst hp k (some cs) (some (some n)) off (.agg ds) = if off + n<=cs.length/\ds.length = n/\Qn ds = true then some (Qp hp k (splice cs off ds)) else none:=rfl
theorem Qje {hp:Qa} {k:Nat} {ty:TypeId} {cs:List DV} (h:hp[k]? = some ⟨ty,true,cs⟩):Qf hp k = some cs:=by
  simp [Qf,h]
theorem Qwh {ty:TypeId} {cs:List DV} {r:Qa}:Qf (⟨ty,true,cs⟩ :: r) 0 = some cs:=rfl
theorem Qwi {B:Blk} {r:Qa} {k:Nat}:Qf (B :: r) (k + 1) = Qf r k:=rfl
theorem Qui {ty:TypeId} {l:Bool} {cs ds:List DV} {r:Qa}:Qp (⟨ty,l,cs⟩ :: r) 0 ds = ⟨ty,l,ds⟩ :: r:=rfl
theorem Quj {B:Blk} {ds:List DV} {r:Qa} {k:Nat}:Qp (B :: r) (k + 1) ds = B :: Qp r k ds:=by
  unfold Qp
  simp only [List.getElem?_cons_succ]
  cases r[k]?<;>rfl
theorem QCh {hp:Qa} {T:TypeId} {d:DV}:QAr hp T d = if Qn (Qb4 d) = true then some (.ptr hp.length 0,hp ++ [⟨T,true,Qb4 d⟩]) else none:=rfl
theorem Qwr {P:Program} {hp:Qa} {T:TypeId}:Qga P hp T = QC8 hp T (QO P T):=by
  unfold Qga QC8; cases QO P T<;>rfl
theorem Qqf {hp:Qa} {T:TypeId} {cs:List DV}:QC8 hp T (some cs) = if Qn cs = true then some (.ptr hp.length 0,hp ++ [⟨T,true,cs⟩]) else none:=rfl
theorem Qph:Qn [] = true:=rfl
theorem Qmw {d:DV} {r:List DV}:Qn (d :: r) = (d.one && Qn r):=rfl
theorem QBE {p:PV}:DV.one (.pv p) = true:=rfl
theorem QyS {k a b c:Nat}:DV.one (.own k a b c) = true:=rfl
theorem QBF {f:Fn} {a b:List DV}:DV.one (.fn f a b) = true:=rfl
theorem QsK {P:Program} {T:TypeId} {f k off:Nat}:Qai P T f (.ptr k off) = QC3 (Qe P T f) k off:=by
  simp only [Qai,QC3]; cases Qe P T f<;>rfl
theorem Qp6 {t:TypeId} {o s k off:Nat}:QC3 (some (t,o,s)) k off = if s = 0 then none else some (.ptr k (off + o)):=rfl
theorem QvV {P:Program} {T:TypeId} {f:Nat} {cs:List PV}:Qai P T f (.ip cs) = QC4 (Qe P T f) cs:=by
  simp only [Qai,QC4]; cases Qe P T f<;>rfl
theorem Qp7 {t:TypeId} {o s:Nat} {cs:List PV}:QC4 (some (t,o,s)) cs = if s = 0 then none else some (.ip (cs.drop o)):=rfl
theorem QoR {P:Program} {T:TypeId} {f:Nat} {cs:List DV}:Qdz P T f (.agg cs) = vfv P cs (Qe P T f):=by
  simp only [Qdz,vfv]; cases Qe P T f<;>rfl
theorem QtT {P:Program} {t:TypeId} {o s:Nat} {cs:List DV}:vfv P cs (some (t,o,s)) = Qhd P t cs o:=rfl
theorem QtK {P:Program} {T:TypeId} {cs:List DV} {off:Nat}:Qhd P T cs off = vpt (vt P T) cs off:=by
  unfold Qhd vpt; cases vt P T with
  | none=>rfl
  | some o=>cases o<;>rfl
theorem Qxu {cs:List DV} {n off:Nat}:vpt (some (some n)) cs off = if off + n<=cs.length then some (.agg ((cs.drop off).take n)) else none:=rfl
theorem QvG {P:Program} {T:TypeId} {xs:List (List PV)} {k:IntKind} {i:Int}:Qah P T (.pv (.sl xs)) (.pv (.lit (.int k i))) = QAM (QL P T) xs[i.toNat]? i:=by
  unfold QAM Qah
  cases QL P T with
  | none=>rfl
  | some e =>
    obtain ⟨a,b,c⟩:=e
    cases a with
    | some n=>rfl
    | none=>cases h:xs[i.toNat]?<;>simp [QjX,h]
theorem Qjx {e:TypeId} {sz:Nat} {c:List PV} {i:Int} (h0:0<=i) (hl:c.length = sz) (hp:0 < sz):QAM (some (none,e,sz)) (some c) i = some (.ip c):=by
  simp [QAM,h0,hl,hp]
theorem Qsi {P:Program} {T:TypeId} {b sz off len:Nat} {k:IntKind} {i:Int}:Qah P T (.own b sz off len) (.pv (.lit (.int k i))) = QCH (QL P T) b sz off len i:=by
  unfold QCH Qah
  cases QL P T with
  | none=>rfl
  | some e =>
    obtain ⟨a,b,c⟩:=e
    cases a<;>rfl
theorem Qp1 {e:TypeId} {sz b off len:Nat} {i:Int} (h0:0<=i) (hl:i < len):QCH (some (none,e,sz)) b sz off len i = some (.ptr b (off + i.toNat * sz)):=by
  simp [QCH,h0,hl]
theorem Qsh {P:Program} {T:TypeId} {b off:Nat} {k:IntKind} {i:Int}:Qah P T (.ptr b off) (.pv (.lit (.int k i))) = QCG (QL P T) b off i:=by
  unfold QCG Qah
  cases QL P T with
  | none=>rfl
  | some e =>
    obtain ⟨a,b,c⟩:=e
    cases a<;>rfl
theorem Qp0 {e:TypeId} {n sz b off:Nat} {i:Int} (h0:0<=i) (hl:i < n):QCG (some (some n,e,sz)) b off i = some (.ptr b (off + i.toNat * sz)):=by
  simp [QCG,h0,hl]
theorem Qsd {P:Program} {T:TypeId} {cs:List DV} {k:IntKind} {i:Int}:Qcx P T (.agg cs) (.pv (.lit (.int k i))) = QCF P (QL P T) cs i:=by
  unfold QCF Qcx
  cases QL P T with
  | none=>rfl
  | some e =>
    obtain ⟨a,b,c⟩:=e
    cases a<;>rfl
theorem QpZ {P:Program} {e:TypeId} {n sz:Nat} {cs:List DV} {i:Int} (h0:0<=i) (hl:i < n):QCF P (some (some n,e,sz)) cs i = Qhd P e cs (i.toNat * sz):=by
  simp [QCF,h0,hl]
theorem Qsc {P:Program} {T:TypeId} {l:List UInt8} {k:IntKind} {i:Int}:Qcx P T (.pv (.str l)) (.pv (.lit (.int k i))) = QCE (Qad P T) l[i.toNat]? i:=by
  unfold QCE Qcx Qad
  cases P.underlying T with
  | none=>rfl
  | some u=>cases u<;>first | rfl | (cases h:l[i.toNat]?<;>simp [h])
theorem QpY {b:UInt8} {i:Int} (h0:0<=i):QCE .str (some b) i = some (.pv (.lit (.int .u8 b.toNat))):=by
  simp [QCE,h0]
theorem Qz2 {P:Program} {op:BinOp} {T:TypeId} {k k2:IntKind} {a b:Int}:QtA P op T (.pv (.lit (.int k a))) (.pv (.lit (.int k2 b))) = Qw op k a k2 b:=rfl
theorem Qz1 {P:Program} {op:BinOp} {T:TypeId} {a b:List UInt8}:QtA P op T (.pv (.str a)) (.pv (.str b)) = QcB op a b:=rfl
theorem Qzr {k:IntKind} {a b:Int}:Qw .add k a k b = some (.int k (k.wrap (a + b))):=by
  simp [Qw]
theorem Qzf {k:IntKind} {a b:Int}:Qw .sub k a k b = some (.int k (k.wrap (a - b))):=by
  simp [Qw]
theorem Qzk {k:IntKind} {a b:Int}:Qw .mul k a k b = some (.int k (k.wrap (a * b))):=by
  simp [Qw]
theorem Qzq {k:IntKind} {a b:Int}:Qw .and k a k b = some (.int k (bits .and k a b)):=by
  simp [Qw]
theorem QBS {k:IntKind} {a b:Int}:Qw .or k a k b = some (.int k (bits .or k a b)):=by
  simp [Qw]
theorem Qze {k:IntKind} {a b:Int}:Qw .xor k a k b = some (.int k (bits .xor k a b)):=by
  simp [Qw]
theorem Qzp {k:IntKind} {a b:Int}:Qw .eql k a k b = some (.bool (a == b)):=by
  simp [Qw]
theorem Qzj {k:IntKind} {a b:Int}:Qw .neq k a k b = some (.bool (a != b)):=by
  simp [Qw]
theorem Qzl {k:IntKind} {a b:Int}:Qw .lss k a k b = some (.bool (decide (a < b))):=by
  simp [Qw]
theorem Qzm {k:IntKind} {a b:Int}:Qw .leq k a k b = some (.bool (decide (a<=b))):=by
  simp [Qw]
theorem Qzn {k:IntKind} {a b:Int}:Qw .gtr k a k b = some (.bool (decide (b < a))):=by
  simp [Qw]
theorem Qzo {k:IntKind} {a b:Int}:Qw .geq k a k b = some (.bool (decide (b<=a))):=by
  simp [Qw]
theorem Qzi {k:IntKind} {a b:Int} (h:¬ b = 0):Qw .rem k a k b = some (.int k (a.tmod b)):=by
  simp [Qw,h]
theorem Qzh {k k2:IntKind} {a b:Int} (h:¬ b < 0):Qw .shl k a k2 b = some (.int k (k.wrap (a * 2 ^ min b.toNat k.bits))):=by
  simp [Qw,h]
theorem Qzg {k k2:IntKind} {a b:Int} (h:¬ b < 0):Qw .shr k a k2 b = some (.int k (a.fdiv (2 ^ min b.toNat k.bits))):=by
  simp [Qw,h]
theorem QcD {a b:List UInt8} (h:a.length + b.length<=9223372036854775807):QcB .add a b = some (.str (a ++ b)):=by
  simp [QcB,h]
theorem Qx1 {a b:List UInt8}:QcB .eql a b = some (.bool (a == b)):=rfl
theorem QxZ {a b:List UInt8}:QcB .neq a b = some (.bool (!(a == b))):=rfl
theorem QAZ {b:Bool}:vun .not (.pv (.lit (.bool b))) = some (.bool (!b)):=rfl
theorem QAY {n:Int}:vun .xor (.pv (.lit (.int .u32 n))) = some (.int .u32 (bits .xor .u32 4294967295 n)):=rfl
theorem QzI {ds:List DV} {i:Nat}:Qc0 (.tup ds) i = ds[i]?:=rfl
theorem QBP {P:Program} {T:TypeId} {xs:List (List PV)}:Qpn P T (.pv (.sl xs)) = vlk (Qad P T) (.int .i64 xs.length):=by
  unfold Qpn vlk Qad
  cases P.underlying T with
  | none=>rfl
  | some u=>cases u<;>rfl
theorem QAL {e:TypeId} {d:DV}:vlk (.sl e) d = some d:=rfl
theorem Qy5 {P:Program} {T:TypeId} {xs:List (List PV)}:Qpn P T (.pv (.slc xs)) = vlk (Qad P T) (.int .i64 xs.length):=by
  unfold Qpn vlk Qad
  cases P.underlying T with
  | none=>rfl
  | some u=>cases u<;>rfl
theorem Qy6 {P:Program} {T:TypeId} {k s o n:Nat}:Qpn P T (.own k s o n) = vlk (Qad P T) (.int .i64 n):=by
  unfold Qpn vlk Qad
  cases P.underlying T with
  | none=>rfl
  | some u=>cases u<;>rfl
theorem Qy4 {P:Program} {T:TypeId} {l:List UInt8}:Qpn P T (.pv (.str l)) = vls (Qad P T) l:=by
  unfold Qpn vls Qad
  cases P.underlying T with
  | none=>rfl
  | some u=>cases u<;>rfl
theorem Qxz {l:List UInt8}:vls .str l = some (.int .i64 l.length):=rfl
theorem QCk {P:Program} {hp:Qa} {T:TypeId} {x:DV}:QaK P hp .len #[T] [x] = (Qpn P T x).map fun d=>(d,hp):=rfl
theorem Qth {P:Program} {hp:Qa} {s t:TypeId} {x y:DV}:QaK P hp .append #[s,t] [x,y] = Qc4 P hp s t x y:=rfl
theorem Qz8 {P:Program} {hp:Qa} {s t:TypeId} {p:List (List PV)} {y:DV}:Qc4 P hp s t (.pv (.slc p)) y = QdD P hp s t (.pv (.slc p)) y:=rfl
theorem Qz9 {P:Program} {hp:Qa} {s t:TypeId} {k a b c:Nat} {y:DV}:Qc4 P hp s t (.own k a b c) y = QdD P hp s t (.own k a b c) y:=rfl
theorem QCi {P:Program} {hp:Qa} {ts:Array TypeId} {k k2:IntKind} {a b:Int}:QaK P hp .min ts [.pv (.lit (.int k a)),.pv (.lit (.int k2 b))] = some (.int k (if b < a then b else a),hp):=by
  simp [QaK,V.vmin]
theorem QCj {P:Program} {hp:Qa} {ts:Array TypeId} {k k2:IntKind} {a b:Int}:QaK P hp .max ts [.pv (.lit (.int k a)),.pv (.lit (.int k2 b))] = some (.int k (if b > a then b else a),hp):=by
  simp [QaK,V.vmax]
theorem QrG {ev:Operand->DV}:V.parts ev #[] = []:=rfl
theorem Qos {ev:Operand->DV} {i:Nat} {x:Operand} {r:List (Nat × Operand)}:V.parts ev ⟨(i,x) :: r⟩ = (i,ev x) :: V.parts ev ⟨r⟩:=rfl
theorem QvY {i:Nat}:QfV i [] = []:=rfl
theorem QsL {i:Nat} {d:DV} {r:List DV}:QfV i (d :: r) = (i,d) :: QfV (i + 1) r:=rfl
theorem QyU {af:Array Edge} {f:List Nat × Bool} {i:Nat}:QR af f i [] = true:=rfl
theorem Qvg {af:Array Edge} {i:Nat} {b:Bool} {g:List Nat × Bool} {r:List (List Nat × Bool)}:QR af ([],b) i (g :: r) = QR af ([],b) (i + 1) r:=by
  simp [QR]
theorem Qkm {af:Array Edge} {f:List Nat × Bool} {i:Nat} {b:Bool} {r:List (List Nat × Bool)}:QR af f i (([],b) :: r) = QR af f (i + 1) r:=by
  simp [QR]
theorem QyT {af:Array Edge} {k l i:Nat} {b c:Bool} {r:List (List Nat × Bool)}:QR af ([k],b) i (([l],c) :: r) = ((!((c || b) && (l == k)) || af.toList.any fun e=>Region.binds .any e && e.on == i) && QR af ([k],b) (i + 1) r):=by
  simp only [QR,List.any_cons,List.any_nil,Bool.or_false,List.contains,List.elem]
  cases h:(l == k)<;>simp
theorem Qv9 {P:Program} {hp:Qa} {S T:TypeId} {k2:IntKind} {n:Int}:Qa3 P hp S T (.pv (.lit (.int k2 n))) = vci (Qad P S) (Qad P T) n hp:=by
  unfold Qa3 Qcz vci Qad
  cases P.underlying S with
  | none=>rfl
  | some u=>cases P.underlying T with
    | none=>cases u<;>rfl
    | some t => cases u<;>cases t<;>try rfl
                all_goals (simp only [Qwg,Qlk,QjX]; split<;>simp_all)
theorem QxO {k0 k:IntKind} {n:Int} {hp:Qa}:vci (.int k0) (.int k) n hp = some (.int k (k.wrap n),hp):=rfl
theorem QB3 {G:Bool} {S:St} {x:Operand}:evG G S x = Qm G (S.ev x):=rfl
theorem QpI {P:Program} {all r:List Oper} {o:Oper} {K:St->Prop} {S:St}:Qag P all (o :: r) K S = (S.fits o.dst = true/\QpK P all o r K S (QA all S o)):=by
  conv=>lhs; unfold Qag
  congr 1
  unfold QpK QeE
  cases QA all S o with
  | none=>rfl
  | some G=>cases G<;>rfl
theorem QqI {P:Program} {all r:List Oper} {o:Oper} {K:St->Prop} {S:St} {G:Bool}:QpK P all o r K S (some G) = QeE P all o r K S G:=rfl
theorem QqE {P:Program} {all r:List Oper} {o:Oper} {K:St->Prop} {S:St}:QeE P all o r K S true = QnI P all o r K S (Ql (evG true S) o.op):=rfl
theorem Qof {P:Program} {all r:List Oper} {o:Oper} {K:St->Prop} {S:St}:QeE P all o r K S false = Qag P all r K (S.put o.dst (.tup [])):=rfl
theorem QqH {P:Program} {all r:List Oper} {o:Oper} {K:St->Prop} {S:St}:QnI P all o r K S none = QpJ P all o r K S (vop P (evG true S) S.hp o.op):=rfl
theorem QqG {P:Program} {all r:List Oper} {o:Oper} {K:St->Prop} {S:St} {g:FuncId} {args:List DV}:QnI P all o r K S (some (g,args)) = VCalls P g args S.hp (Qxp P all o r K S):=rfl
theorem QqF {P:Program} {all r:List Oper} {o:Oper} {K:St->Prop} {S:St} {d:DV} {hp:Qa}:QpJ P all o r K S (some (d,hp)) = Qag P all r K ((S.at hp).put o.dst (Qcn o.guard true d)):=rfl
theorem Qyd {P:Program} {all r:List Oper} {o:Oper} {K:St->Prop} {S:St} {d:DV} {hp:Qa}:Qxp P all o r K S d hp = Qag P all r K ((S.at hp).put o.dst (Qcn o.guard true d)):=rfl
theorem QtV {P:Program} {all r:List Oper} {o:Oper} {fs:List (List Nat × Bool)} {K:St->Prop} {S:St}:vdr P all (o :: r) fs K S = (S.fits o.dst = true/\QAQ P all o r fs K S (QA all S o)):=by
  conv=>lhs; unfold vdr
  congr 1
  unfold QAQ QnW
  cases QA all S o with
  | none=>rfl
  | some G=>cases G<;>rfl
theorem Qv4 {P:Program} {all r:List Oper} {o:Oper} {fs:List (List Nat × Bool)} {K:St->Prop} {S:St} {G:Bool}:QAQ P all o r fs K S (some G) = QnW P all o r fs K S G:=rfl
theorem Qv1 {P:Program} {all r:List Oper} {o:Oper} {fs:List (List Nat × Bool)} {K:St->Prop} {S:St}:QnW P all o r fs K S true = QAP P all o r fs K S (Ql (evG true S) o.op):=rfl
theorem QsO {P:Program} {all r:List Oper} {o:Oper} {fs:List (List Nat × Bool)} {K:St->Prop} {S:St}:QnW P all o r fs K S false = vdr P all r (fs ++ [([],false)]) K (S.put o.dst (.tup [])):=rfl
theorem Qv3 {P:Program} {all r:List Oper} {o:Oper} {fs:List (List Nat × Bool)} {K:St->Prop} {S:St}:QAP P all o r fs K S none = QAO P all o r fs K S (QbM (evG true S) o.op) (vop P (evG true S) S.hp o.op):=rfl
theorem Qv2 {P:Program} {all r:List Oper} {o:Oper} {fs:List (List Nat × Bool)} {K:St->Prop} {S:St} {d:DV} {hp:Qa} {f:List Nat × Bool}:QAO P all o r fs K S f (some (d,hp)) = (Q6 o.op = true/\QR o.after f 0 fs = true/\vdr P all r (fs ++ [f]) K ((S.at hp).put o.dst (Qcn o.guard true d))):=rfl
theorem Qs4 {P:Program} {c:Operand} {a b:Code} {Q:Exit->St->Prop} {S:St}:Qx P (.cond c a b) Q S = QpA P a b Q S (S.ev c):=by
  conv=>lhs; unfold Qx
  unfold QpA
  rfl
theorem QnF {P:Program} {t:Bool} {a b:Code} {Q:Exit->St->Prop} {S:St}:QpA P a b Q S (.pv (.lit (.bool t))) = vbr P a b Q S t:=rfl
theorem Qt1 {P:Program} {a b:Code} {Q:Exit->St->Prop} {S:St}:vbr P a b Q S true = Qx P a Q S:=by
  simp [vbr,QtY]
theorem Qqd {P:Program} {a b:Code} {Q:Exit->St->Prop} {S:St}:vbr P a b Q S false = Qx P b Q S:=by
  simp [vbr,QtY]
theorem Qjs {P:Program} {rs:List ResultVar} {n:Nat} {R:DV->Qa->Prop} {S:St}:Qcv P rs n R .normal S = QtU n S.hp R (QD P S rs):=by
  unfold Qcv QtU; cases QD P S rs<;>rfl
theorem QpM {P:Program} {rs:List ResultVar} {n:Nat} {R:DV->Qa->Prop} {S:St}:Qcv P rs n R .ret S = QtU n S.hp R (QD P S rs):=by
  unfold Qcv QtU; cases QD P S rs<;>rfl
theorem QvD {P:Program} {rs:List ResultVar} {R:DV->Qa->Prop} {S:St}:Qap P rs R .ret S = Qp5 S.hp R (QD P S rs):=by
  unfold Qap Qp5; cases QD P S rs<;>rfl
theorem Qp4 {n:Nat} {hp:Qa} {R:DV->Qa->Prop} {d:DV}:QtU n hp R (some d) = QnV R (frz n hp d) (Qbc n hp):=by
  simp only [QtU,Qtw,QnV]<;>cases frz n hp d<;>cases Qbc n hp<;>rfl
theorem QnT {hp:Qa} {R:DV->Qa->Prop} {d:DV}:Qp5 hp R (some d) = R d hp:=rfl
theorem QnU {d:DV} {hp:Qa} {R:DV->Qa->Prop}:QnV R (some d) (some hp) = R d hp:=rfl
theorem QDy {nt base:Nat} {tm:List (Nat × DV)} {hp:Qa}:St.hp ⟨nt,base,tm,hp⟩ = hp:=rfl
theorem Quh {P:Program} {hp:Qa} {T:TypeId} {p:PV} {lo hi mx:Option DV}:Qct P hp T (.pv p) lo hi mx = Qbf P T (.pv p) lo hi mx:=rfl
theorem Qmg {ty:TypeId} {cs:List DV} {r:Qa}:Qbc 1 (⟨ty,true,cs⟩ :: r) = QzB ty (Qh (cs.map (Qcq 1 (⟨ty,true,cs⟩ :: r)))):=by
  unfold Qbc QzB
  simp only [List.take_succ_cons,List.take_zero,List.map_cons,List.map_nil,if_true]
  cases Qh (cs.map (Qcq 1 (⟨ty,true,cs⟩ :: r)))<;>rfl
theorem QoK {ty:TypeId} {cs:List DV}:QzB ty (some cs) = some [⟨ty,true,cs⟩]:=rfl
theorem QlH {P:Program} {T:TypeId} {k2:IntKind} {j:Int} {xs:List (List PV)} (h1:0<=j):Qbf P T (.pv (.sl xs)) none (some (.pv (.lit (.int k2 j)))) none = QnH (QL P T) xs 0 j.toNat:=by
  unfold Qbf QnH
  simp only [QjX,Ql9,QoD,if_pos h1]
  cases QL P T with
  | none=>rfl
  | some e =>
    obtain ⟨a,b,c⟩:=e
    cases a<;>rfl
theorem QlG {P:Program} {T:TypeId} {k:IntKind} {i:Int} {xs:List (List PV)} (h0:0<=i):Qbf P T (.pv (.sl xs)) (some (.pv (.lit (.int k i)))) none none = QnH (QL P T) xs i.toNat xs.length:=by
  unfold Qbf QnH
  simp only [QjX,Ql9,QoD,if_pos h0]
  cases QL P T with
  | none=>rfl
  | some e =>
    obtain ⟨a,b,c⟩:=e
    cases a<;>rfl
theorem QjW {P:Program} {T:TypeId} {k2:IntKind} {j:Int} {xs:List UInt8} (h1:0<=j):Qbf P T (.pv (.str xs)) none (some (.pv (.lit (.int k2 j)))) none = Qwy (Qad P T) xs 0 j.toNat:=by
  unfold Qbf Qwy Qad
  simp only [Ql9,QoD,if_pos h1]
  cases P.underlying T with
  | none=>rfl
  | some u=>cases u<;>rfl
theorem QjV {P:Program} {T:TypeId} {k:IntKind} {i:Int} {xs:List UInt8} (h0:0<=i):Qbf P T (.pv (.str xs)) (some (.pv (.lit (.int k i)))) none none = Qwy (Qad P T) xs i.toNat xs.length:=by
  unfold Qbf Qwy Qad
  simp only [Ql9,QoD,if_pos h0]
  cases P.underlying T with
  | none=>rfl
  | some u=>cases u<;>rfl
theorem Qhp {P:Program} {T:TypeId} {k k2:IntKind} {i j:Int} {xs:List UInt8} (h0:0<=i) (h1:0<=j):Qbf P T (.pv (.str xs)) (some (.pv (.lit (.int k i)))) (some (.pv (.lit (.int k2 j)))) none = Qwy (Qad P T) xs i.toNat j.toNat:=by
  unfold Qbf Qwy Qad
  simp only [Ql9,QoD,if_pos h0,if_pos h1]
  cases P.underlying T with
  | none=>rfl
  | some u=>cases u<;>rfl
theorem QpE {e:TypeId} {sz a b:Nat} {xs:List (List PV)} (h1:a<=b) (h2:b<=xs.length) (h3:xs[0]?.map List.length = some sz):QnH (some (none,e,sz)) xs a b = some (.pv (.sl ((xs.take b).drop a))):=by
  simp [QnH,h1,h2,h3]
theorem QpD {a b:Nat} {xs:List UInt8} (h1:a<=b) (h2:b<=xs.length):Qwy .str xs a b = some (.pv (.str ((xs.take b).drop a))):=by
  simp [Qwy,h1,h2]
theorem Qz3 {P:Program} {op:BinOp} {T:TypeId} {xs ys:List DV}:QtA P op T (.agg xs) (.agg ys) = vba op (vt P T) (QaH P 8 T) (P.eqGuardType P.depth T) xs ys:=by
  unfold QtA vba
  rfl
theorem QxT {n:Nat} {l:List (Nat × Nat)} {xs ys:List DV}:vba .eql (some (some n)) (some l) false xs ys = (QJ xs ys l).map fun b=>.bool b:=by
  simp only [vba]
  cases QJ xs ys l<;>rfl
theorem QxS {n:Nat} {l:List (Nat × Nat)} {xs ys:List DV}:vba .neq (some (some n)) (some l) false xs ys = (QJ xs ys l).map fun b=>.bool (!b):=by
  simp only [vba]
  cases QJ xs ys l<;>rfl
theorem QyO {x:DV} {b:Bool}:Qkg false x (.pv (.lit (.bool b))) = .bool b:=by
  cases x with
  | pv p=>cases p with
    | lit v=>cases v<;>rfl
    | _=>rfl
  | _=>rfl
theorem QyN {x:DV} {b:Bool}:Qkg true (.pv (.lit (.bool b))) x = .bool b:=by
  cases x with
  | pv p=>cases p with
    | lit v=>cases v<;>rfl
    | _=>rfl
  | _=>rfl
theorem QrA {ds:List DV}:QlS (.tup ds) = []:=rfl
@[congr] theorem Qxt (P:Program) (all:List Oper) (o:Oper) (r:List Oper) (K:St->Prop) (S:St) {g g':Option Bool} (h:g = g'):QpK P all o r K S g = QpK P all o r K S g':=by rw [h]
@[congr] theorem Qxq (P:Program) (all:List Oper) (o:Oper) (r:List Oper) (K:St->Prop) (S:St) {g g':Bool} (h:g = g'):QeE P all o r K S g = QeE P all o r K S g':=by rw [h]
@[congr] theorem Qxs (P:Program) (all:List Oper) (o:Oper) (r:List Oper) (K:St->Prop) (S:St) {c c':Option (FuncId × List DV)} (h:c = c'):QnI P all o r K S c = QnI P all o r K S c':=by rw [h]
@[congr] theorem Qxr (P:Program) (all:List Oper) (o:Oper) (r:List Oper) (K:St->Prop) (S:St) {x x':Option (DV × Qa)} (h:x = x'):QpJ P all o r K S x = QpJ P all o r K S x':=by rw [h]
@[congr] theorem QAq (P:Program) (all:List Oper) (o:Oper) (r:List Oper) (fs:List (List Nat × Bool)) (K:St->Prop) (S:St) {g g':Option Bool} (h:g = g'):QAQ P all o r fs K S g = QAQ P all o r fs K S g':=by rw [h]
@[congr] theorem QAm (P:Program) (all:List Oper) (o:Oper) (r:List Oper) (fs:List (List Nat × Bool)) (K:St->Prop) (S:St) {g g':Bool} (h:g = g'):QnW P all o r fs K S g = QnW P all o r fs K S g':=by rw [h]
@[congr] theorem QAp (P:Program) (all:List Oper) (o:Oper) (r:List Oper) (fs:List (List Nat × Bool)) (K:St->Prop) (S:St) {c c':Option (FuncId × List DV)} (h:c = c'):QAP P all o r fs K S c = QAP P all o r fs K S c':=by rw [h]
@[congr] theorem Qxj (P:Program) (a b:Code) (Q:Exit->St->Prop) (S:St) {c c':DV} (h:c = c'):QpA P a b Q S c = QpA P a b Q S c':=by rw [h]
@[congr] theorem QAU (P:Program) (a b:Code) (Q:Exit->St->Prop) (S:St) {t t':Bool} (h:t = t'):vbr P a b Q S t = vbr P a b Q S t':=by rw [h]
@[congr] theorem QAl (n:Nat) (hp:Qa) (R:DV->Qa->Prop) {r r':Option DV} (h:r = r'):QtU n hp R r = QtU n hp R r':=by rw [h]
@[congr] theorem QxD {b b2:Bool} (d:DV) (r:List (Nat × DV)) (t:Nat) (h:b = b2):QnR b d r t = QnR b2 d r t:=by rw [h]
@[congr] theorem QxG (hp:Qa) (R:DV->Qa->Prop) {r r':Option DV} (h:r = r'):Qp5 hp R r = Qp5 hp R r':=by rw [h]
@[congr] theorem QAo (P:Program) (all:List Oper) (o:Oper) (r:List Oper) (fs:List (List Nat × Bool)) (K:St->Prop) (S:St) {f f':List Nat × Bool} {x x':Option (DV × Qa)} (h:f = f') (g:x = x'):QAO P all o r fs K S f x = QAO P all o r fs K S f' x':=by rw [h,g]
@[congr] theorem QxH (R:DV->Qa->Prop) {r r':Option DV} {h h':Option Qa} (a:r = r') (b:h = h'):QnV R r h = QnV R r' h':=by rw [a,b]
@[congr] theorem QAj (P:Program) (all ops:List Oper) (K:St->Prop) {S S':St} (h:S = S'):Qag P all ops K S = Qag P all ops K S':=by rw [h]
@[congr] theorem QAN (P:Program) (all ops:List Oper) (fs:List (List Nat × Bool)) (K:St->Prop) {S S':St} (h:S = S'):vdr P all ops fs K S = vdr P all ops fs K S':=by rw [h]
@[congr] theorem QxN (P:Program) (c:Code) (Q:Exit->St->Prop) {S S':St} (h:S = S'):Qx P c Q S = Qx P c Q S':=by rw [h]
end Go.V
namespace Go.V
abbrev Ret (d:DV):DV->Qa->Prop:=fun r h'=>h' = []/\r.nums (fun _=>false) = true/\r = d
theorem Qax {P:Program} {g:FuncId} {args:List DV} {hp:Qa} {K:DV->Qa->Prop} {d:DV} (c:VCalls P g args [] (Ret d)) (ha:DV.nums.go (fun _=>false) args = true) (h:K d hp):VCalls P g args hp K:=
  (VCalls.pure (R:=fun r=>r = d) c ha).mono fun r h' e=>by obtain ⟨rfl,rfl⟩:=e; exact h
theorem QmB {P:Program} {g:FuncId} {args:List DV} {hp:Qa} {K:DV->Qa->Prop} {R:DV->Prop} (c:VCalls P g args [] fun r h'=>h' = []/\r.nums (fun _=>false) = true/\R r) (ha:DV.nums.go (fun _=>false) args = true) (h:∀ r,R r->K r hp):VCalls P g args hp K:=
  (VCalls.pure c ha).mono fun r h' e=>by obtain ⟨rfl,e⟩:=e; exact h r e
theorem QtW {P:Program} {g:FuncId} {args:List DV} {K:DV->Prop} {d:DV} (c:VCalls P g args [] (Ret d)) (ha:DV.nums.go (fun _=>false) args = true) (hd:d.nums (fun _=>false) = true) (h:K d):vdc P g args K:=
  ⟨d,c.mono fun _ _ e=>⟨e.1,e.2.2⟩,ha,hd,h⟩
end Go.V
namespace Go.V
abbrev wd (r:Option Nat):Fence:={ Fence.wide with round:=r }
theorem Qdu {ev:Operand->DV} {o:Op} {g:FuncId} {args:List DV} (h:Ql ev o = some (g,args)):∀ c,o ≠ .defer c:=by
  rintro c rfl
  simp [Ql] at h
theorem QcI {P:Program} {ev:Operand->DV} {hp:Qa} {o:Op} {r:DV × Qa} (h:vop P ev hp o = some r):∀ c,o ≠ .defer c:=by
  rintro c rfl
  simp [vop] at h
theorem Qif {P:Program} {rd:Option Nat} {n:Nat} {w:World} {β:Map} {hp:Qa} {ev:Operand->DV} {a:Act} {o:Oper} (hev:∀ x,RelD w β hp (ev x) (a.eval x)) {g:FuncId} {args:List DV} (hc:Ql ev o.op = some (g,args)) {R:DV->Qa->Prop}
    (hh:HeapRel w β hp) (hcalls:VCalls P g args hp R) {next:Act->World->Prop} {Q:Exit->Act->World->Prop}
    (hn:∀ v r h' β' w',Evo w β hp w' β' h'->HeapRel w' β' h'->RelD w' β' h' r v->R r h'->next (a.put o.dst v) w'):o.wpIn (wd rd) n P a w next Q:=by
  have hnd:=Qdu hc
  unfold Ql at hc
  split at hc
  · rename_i c hop
    split at hc
    · rename_i f hcal
      split at hc
      · rename_i g' first cap hfn
        simp at hc
        obtain ⟨rfl,rfl⟩:=hc
        have hf:=hev f
        rw [hfn] at hf
        generalize hv:a.eval f = fv at hf
        cases hf with
        | fn _ _ _ vs us l1 l2 r1 r2 =>
          have hrel:RelL w β hp (first ++ c.args.toList.map ev ++ cap) (vs ++ c.args.map a.eval ++ us):=QaW (QaW ⟨l1,r1⟩ (Qed hev c.args)) ⟨l2,r2⟩
          rcases hcalls.run w β (vs ++ c.args.map a.eval ++ us) hh (by simpa using hrel) with ⟨fn,h1,h2,h3,h4⟩ | ⟨fn,v,w',h1,h2,h3,v',r,h',β',e,k1,k2,k3,k4⟩
          · have hrun:(execOp a.eval o).run P w = .ok (.enter g' (vs ++ c.args.map a.eval ++ us)) w:=by
              simp [execOp,hop,resolve,hcal,hv,Deferred.ofValue,invoke,Qbb h1 h2 h3]
            refine ⟨fun _ _=>trivial,?_⟩
            rw [Oper.semAt_plain _ _ _ hnd,hrun,Oper.uponIn_enter]
            refine ⟨fun h=>by simp [Fence.wide] at h,CallsIn.mono (F:=wd rd) (callsIn_wide.2 h4) ?_⟩
            rintro e w' ⟨v,r,h',β',rfl,k1,k2,k3,k4⟩
            exact hn v r h' β' w' k1 k2 k3 k4
          · have hrun:(execOp a.eval o).run P w = .ok (.value v) w':=by
              rw [Array.append_assoc] at h3
              simp [execOp,hop,resolve,hcal,hv,Deferred.ofValue,invoke,h3]
            cases e
            refine ⟨fun _ _=>trivial,?_⟩
            rw [Oper.semAt_plain _ _ _ hnd,hrun]
            exact hn v r h' β' w' k1 k2 k3 k4
      · simp at hc
    · simp at hc
  · simp at hc
theorem QcR {P:Program} {rd:Option Nat} {n:Nat} {w:World} {β:Map} {hp hp':Qa} {a:Act} {o:Oper} {d:DV} (hnd:∀ c,o.op ≠ .defer c) (h:Qlb P w β hp (execOp a.eval o) d hp') {next:Act->World->Prop} {Q:Exit->Act->World->Prop}
    (hn:∀ v w' β',Evo w β hp w' β' hp'->HeapRel w' β' hp'->RelD w' β' hp' d v->next (a.put o.dst v) w'):o.wpIn (wd rd) n P a w next Q:=by
  obtain ⟨v,w',β',h1,h2,h3,h4⟩:=h
  refine ⟨fun _ _=>trivial,?_⟩
  rw [Oper.semAt_plain _ _ _ hnd]
  rcases h1 with h1 | ⟨h1,rfl⟩
  · rw [h1]; exact hn v w' β' h2 h3 h4
  · rw [h1]; exact hn undef w' β' h2 h3 h4
theorem QaD {P:Program} {rd:Option Nat} {n:Nat} {O:Org} {ops:Array Oper} {Q:Exit->Act->World->Prop} {K:St->Prop} {tail:List Nat} {T:Act->Prop} (hT:∀ o ∈ ops.toList,∀ (a:Act) (v:Value),T a->T (a.put o.dst v)) (hK:∀ β S a w,Sim O β S a w->T a->K S->wpOpsIn (wd rd) n P ops Q tail a w):∀ (rest:List Oper) (pre post:List Oper),ops.toList = pre ++ rest ++ post->∀ (β:Map) (S:St) (a:Act) (w:World),Sim O β S a w->T a->Qag P ops.toList rest K S ->
    wpOpsIn (wd rd) n P ops Q (List.range' pre.length rest.length ++ tail) a w
  | [],pre,post,_,β,S,a,w,hs,ht,h=>by
    simp only [List.length_nil,List.range'_zero,List.nil_append]
    exact hK β S a w hs ht h
  | o :: r,pre,post,hops,β,S,a,w,hs,ht,h=>by
    have hT0:=hT o (by rw [hops]; simp)
    have hidx:ops[pre.length]? = some o:=by
      have:ops.toList[pre.length]? = some o:=by rw [hops]; simp
      simpa using this
    have ih:=fun β S a w=>QaD (P:=P) (rd:=rd) (n:=n) (O:=O) hT hK r (pre ++ [o]) post (by rw [hops]; simp) β S a w
    simp only [List.length_append,List.length_singleton] at ih
    simp only [List.length_cons,List.range'_succ,List.cons_append,wpOpsIn,hidx]
    unfold Qag at h
    obtain ⟨hf,h⟩:=h
    split at h
    · exact h.elim
    · rename_i hg
      rw [QK (ops:=ops) hs hg,if_neg (by simp)]
      exact ⟨fun _ _=>trivial,ih β _ _ _ (hs.skip (.tup [] #[] rfl (by simp)) hf) (hT0 a _ ht) h⟩
    · rename_i hg
      rw [QK (ops:=ops) hs hg,if_pos rfl]
      have hev:∀ x,RelD w β S.hp (Qm true (S.ev x)) (a.eval x):=fun x=>Qal (hs.ev x) rfl
      split at h
      · rename_i g args hc
        refine Qif hev hc hs.heap h (fun v r h' β' w' k1 k2 k3 k4=>?_)
        exact ih β' _ _ _ (hs.step k1 k2 (Qaq k3) hf) (hT0 a _ ht) k4
      · split at h
        · rename_i d hp' hv
          refine QcR (QcI hv) (QaJ hs.heap hev (fun _=>rfl) hv) (fun v w' β' k1 k2 k3=>?_)
          exact ih β' _ _ _ (hs.step k1 k2 (Qaq k3) hf) (hT0 a _ ht) h
        · exact h.elim
theorem Qf1 {P:Program} {rd:Option Nat} {n:Nat} {O:Org} {ops:Array Oper} {Q:Exit->Act->World->Prop} {K:St->Prop} (hK:∀ β S a w,Sim O β S a w->K S->Q .normal a w) (β:Map) (S:St) (a:Act) (w:World) (hs:Sim O β S a w) (h:Qag P ops.toList ops.toList K S) :
    wpOpsIn (wd rd) n P ops Q (List.range ops.size) a w:=by
  have:=QaD (P:=P) (rd:=rd) (n:=n) (O:=O) (ops:=ops) (Q:=Q) (K:=K) (tail:=[]) (T:=fun _=>True) (fun _ _ _ _ _=>trivial) (fun β S a w hs _ hk=>hK β S a w hs hk) ops.toList [] [] (by simp) β S a w hs trivial h
  simpa [List.range_eq_range'] using this
def QaA:Code->Bool
  | .skip | .exit _ | .ret=>true
  | .region _ _ d=>!d
  | .seq a b | .cond _ a b=>QaA a && QaA b
  | .block _ c=>QaA c
  | _=>false
theorem Q0 {P:Program} {rd:Option Nat} {n:Nat}:∀ (c:Code) (Q:Exit->St->Prop) (S:St),QaA c = true->Qx P c Q S->∀ (O:Org) (β:Map) (a:Act) (w:World),Sim O β S a w->c.wpIn (wd rd) n P (Qkz O Q) a w
  | .skip,Q,S,_,h=>fun O β a w hs=>wpIn_skip ⟨β,S,hs,h⟩
  | .region id ops draw,Q,S,hp,h=>fun O β a w hs=>by
    unfold Qx at h
    have hd:draw = false:=by simpa [QaA] using hp
    subst hd
    simp only [Bool.false_eq_true,if_false] at h
    have:=Qf1 (P:=P) (rd:=rd) (n:=n) (O:=O) (ops:=ops) (Q:=Qkz O Q) (K:=Q .normal) (fun β S a w hs hk=>⟨β,S,hs,hk⟩) β S a w hs h
    exact wpIn_region this
  | .seq x y,Q,S,hp,h=>fun O β a w hs=>by
    unfold Qx at h
    simp only [QaA,Bool.and_eq_true] at hp
    have h1:=Q0 (rd:=rd) (n:=n) x _ S hp.1 h O β a w hs
    refine wpIn_seq (wpIn_mono h1 fun e a' w' hq=>?_)
    obtain ⟨β',S',hs',hq⟩:=hq
    cases e with
    | normal=>exact Q0 y Q S' hp.2 hq O β' a' w' hs'
    | _=>exact ⟨β',S',hs',hq⟩
  | .cond c x y,Q,S,hp,h=>fun O β a w hs=>by
    unfold Qx at h
    simp only [QaA,Bool.and_eq_true] at hp
    split at h
    · rename_i t ht
      have hc:=hs.ev c
      rw [ht] at hc
      refine wpIn_cond_split (Qi hc) (fun e=>?_) (fun e=>?_)
      · exact Q0 x Q S hp.1 (h.1 e) O β a w hs
      · exact Q0 y Q S hp.2 (h.2 e) O β a w hs
    · exact h.elim
  | .block id c,Q,S,hp,h=>fun O β a w hs=>by
    unfold Qx at h
    have h1:=Q0 (rd:=rd) (n:=n) c _ S (by simpa [QaA] using hp) h O β a w hs
    refine wpIn_block (wpIn_mono h1 fun e a' w' hq=>?_)
    obtain ⟨β',S',hs',hq⟩:=hq
    cases e with
    | exit id' =>
      simp only [Qay] at hq
      simp only [Exit.inBlock]
      split
      · rename_i he; rw [if_pos he] at hq; exact ⟨β',S',hs',hq⟩
      · rename_i he; rw [if_neg he] at hq; exact ⟨β',S',hs',hq⟩
    | _=>exact ⟨β',S',hs',hq⟩
  | .exit id,Q,S,_,h=>fun O β a w hs=>wpIn_exit ⟨β,S,hs,h⟩
  | .ret,Q,S,_,h=>fun O β a w hs=>wpIn_ret ⟨β,S,hs,h⟩
  | .loop _,_,_,hp,_=>by simp [QaA] at hp
  | .rangeFunc ..,_,_,hp,_=>by simp [QaA] at hp
  | .scope _,_,_,hp,_=>by simp [QaA] at hp
  | .label _,_,_,hp,_=>by simp [QaA] at hp
  | .goto _,_,_,hp,_=>by simp [QaA] at hp
  | .refuse _,_,_,hp,_=>by simp [QaA] at hp
end Go.V
namespace Go.V
section
variable {P:Program} {ops:Array Oper} {T:Nat->St} {F:Nat->List Nat × Bool} {rd:Option Nat} {n:Nat}
theorem Qfp {O:Org} {Q:Exit->Act->World->Prop} (h:Steps P ops T F) (hK:∀ β a w,Sim O β (T ops.size) a w->Q .normal a w):∀ (fuel:Nat) (listed:Array Bool) (a:Act) (w:World) (β:Map) (S:St),
    (List.range ops.size).countP (fun i=>!listed.getD i false)<=fuel->Sim O β S a w->Inv O ops T F listed S->wpAnyIn (wd rd) n P .any ops Q fuel listed a w:=by
  have done : ∀ (listed:Array Bool) (a:Act) (w:World) (β:Map) (S:St),Region.ready .any ops listed = []->Sim O β S a w->Inv O ops T F listed S->Q .normal a w:=by
    intro listed a w β S hready hs hi
    have all:∀ i,i < ops.size->listed.getD i false = true:=by
      intro i
      induction i using Nat.strongRecOn with
      | _ i ih =>
        intro hlt
        cases hl:listed.getD i false with
        | true=>rfl
        | false =>
          have ho:ops[i]? = some ops[i]:=Array.getElem?_eq_getElem hlt
          have hmem:i ∈ Region.ready .any ops listed:=by
            rw [mem_ready]
            refine ⟨?_,ops[i],ho,fun e he hb=>ih e.on ((Qa0 h.ok ho).1 e he hb) (Nat.lt_trans ((Qa0 h.ok ho).1 e he hb) hlt)⟩
            have hsz:i < listed.size:=by rw [hi.size]; exact hlt
            simpa [hsz] using hl
          rw [hready] at hmem
          cases hmem
    obtain ⟨f1,f2,f3⟩:=Qb2 h ops.size (Nat.le_refl _)
    have lt_of:∀ i t,wT ops i t->i < ops.size:=fun i t ⟨o,ho,_⟩=>(Array.getElem?_eq_some_iff.1 ho).1
    refine hK β a w (Qw9 (S:=S) (hi.nt.trans f1.symm) (hi.base.trans f2.symm) ?_ hs (fun t=>?_))
    · apply List.ext_getElem?
      intro k
      obtain ⟨m,hm,e,_,h2⟩:=hi.hp k
      rw [e]
      exact (Qeq h ops.size hm (Nat.le_refl _) (fun i h3 h4 hw=>by have:=h2 i h3 h4 hw; rw [all i h4] at this; cases this)).symm
    · obtain ⟨m,hm,e,_,h2⟩:=hi.tm t
      rw [e]
      exact (Qd2 h ops.size hm (Nat.le_refl _) (fun i h3 h4 hw=>by have:=h2 i h3 hw; rw [all i h4] at this; cases this)).symm
  intro fuel
  induction fuel with
  | zero =>
    intro listed a w β S hc hs hi
    have hready:Region.ready .any ops listed = []:=by
      apply List.eq_nil_iff_forall_not_mem.2
      intro j hj
      obtain ⟨h0,o,ho,_⟩:=mem_ready.1 hj
      have hlt:j < ops.size:=(Array.getElem?_eq_some_iff.1 ho).1
      have:0 < (List.range ops.size).countP (fun i=>!listed.getD i false):=by
        rw [List.countP_pos_iff]
        refine ⟨j,List.mem_range.2 hlt,?_⟩
        have hsz:j < listed.size:=by rw [hi.size]; exact hlt
        simp [hsz] at h0 |-
        exact h0
      omega
    exact ⟨hready,done listed a w β S hready hs hi⟩
  | succ fuel ih =>
    intro listed a w β S hc hs hi
    refine ⟨fun hready=>done listed a w β S hready hs hi,fun j hj=>?_⟩
    obtain ⟨h0,oj,hoj,hr⟩:=mem_ready.1 hj
    have hlt:j < ops.size:=(Array.getElem?_eq_some_iff.1 hoj).1
    have hsz:j < listed.size:=by rw [hi.size]; exact hlt
    have hun:listed.getD j false = false:=by simp [hsz] at h0 |-; exact h0
    obtain ⟨o',ho',hstep,_⟩:=h.step j hlt
    rw [hoj] at ho'
    simp at ho'
    subst ho'
    have htm:∀ t ∈ oj.looksAt ops,V.look S.tm t = V.look (T j).tm t:=fun t ht=>(Qr6 h hi hoj hun hr (.inl ht)).1
    have heff:=Qd4 hstep
    obtain ⟨hf,G,hg,hcase⟩:=hstep
    obtain ⟨f1,f2,f3⟩:=Qb2 h j (by omega)
    have hf':S.fits oj.dst = true:=by
      unfold St.fits at hf |-
      rw [hi.nt,<- f1]; exact hf
    have hg':QA ops.toList S oj = some G:=by rw [Qa6 htm]; exact hg
    have hw:=QK (ops:=ops) hs hg'
    have hevS:∀ x ∈ oj.op.operands.toList,Qm G (S.ev x) = Qm G ((T j).ev x):=fun x hx=>by rw [QhD htm x hx]
    have hev:G = true->∀ x,RelD w β S.hp (Qm G (S.ev x)) (a.eval x):=fun hG x=>Qal (hs.ev x) hG
    have hcnt:(List.range ops.size).countP (fun i=>!(listed.setIfInBounds j true).getD i false)<=fuel:=by
      have:(List.range ops.size).countP (fun i=>!(listed.setIfInBounds j true).getD i false) < (List.range ops.size).countP (fun i=>!listed.getD i false):=by
        refine Qeu (List.mem_range.2 hlt) (by rw [hun]; rfl) (by simp [hsz]) (fun i hp=>?_)
        by_cases hij:i = j
        · rw [hij,hun]; rfl
        · rw [getD_set_ne false (Ne.symm hij)] at hp; exact hp
      omega
    unfold wpOpIn
    simp only [hoj,hw]
    -- what stands QT this operation
    have next:∀ (β1:Map) (a1:Act) (w1:World) (S1:St),Sim O β1 S1 a1 w1->S1.nt = S.nt->S1.base = S.base->S1.hp.length = S.hp.length->(∀ t,oj.dst ≠ some t->V.look S1.tm t = V.look S.tm t)->(∀ t,oj.dst = some t->V.look S1.tm t = V.look (T (j + 1)).tm t) ->
        (∀ k,¬ wB F j k->S1.hp[k]? = S.hp[k]?)->(∀ k,wB F j k->S1.hp[k]? = (T (j + 1)).hp[k]?)->wpAnyIn (wd rd) n P .any ops Q fuel (listed.setIfInBounds j true) a1 w1:=
      fun β1 a1 w1 S1 k0 k1 k2 k3 k4 k5 k6 k7=>ih _ a1 w1 β1 S1 hcnt k0 (Qi7 h hi hoj hun hr k1 k2 k3 k4 k5 k6 k7)
    have putlook:∀ (S0:St) (d:DV) t,oj.dst = some t->V.look (S0.put oj.dst d).tm t = d:=fun S0 d t ht=>by rw [ht]; simp [St.put,V.look]
    rcases hcase with ⟨g,args,d,hc,hcalls,ha,hd,hT,hF⟩ | ⟨d,hp',hc,hv,hk,hT,hF⟩ | ⟨rfl,hT,hF⟩
    · have nb:∀ k,¬ wB F j k:=fun k hk=>by have:=hk.1; rw [hF] at this; cases this
      have fin:∀ (β1:Map) (a1:Act) (w1:World),Sim O β1 (S.put oj.dst (Qcn oj.guard G d)) a1 w1->wpAnyIn (wd rd) n P .any ops Q fuel (listed.setIfInBounds j true) a1 w1:=fun β1 a1 w1 k0=>
        next β1 a1 w1 _ k0 (St.put_nt ..) (St.put_base ..) (by rw [St.put_hp]) (fun t ht=>St.put_look _ _ _ t ht) (fun t ht=>by rw [hT,putlook _ _ t ht,putlook _ _ t ht]) (fun k _=>by rw [St.put_hp]) (fun k hk=>absurd hk (nb k))
      cases hG:G with
      | true =>
        subst hG
        rw [if_pos rfl]
        have hc':Ql (fun x=>Qm true (S.ev x)) oj.op = some (g,args):=by rw [QgZ hevS]; exact hc
        refine (Qif (hev rfl) hc' hs.heap ((VCalls.pure ((hcalls rfl).mono fun r h' ⟨e1,e2⟩=>⟨e1,by rw [e2]; exact hd,e2⟩) ha).mono fun r h' hh=>hh) (fun v r h' β' w' k1 k2 k3 k4=>?_))
        obtain ⟨rfl,rfl⟩:=k4
        refine fin β' _ _ (hs.step k1 k2 (d:=Qcn oj.guard true r) ?_ hf')
        cases oj.guard with
        | none=>exact k3
        | some _=>exact .opt true r v (fun _=>k3) (by simp)
      | false =>
        subst hG
        rw [if_neg (by simp)]
        refine ⟨fun _ _=>trivial,?_⟩
        refine fin β _ _ (hs.skip (d:=Qcn oj.guard false d) ?_ hf')
        cases hgd:oj.guard with
        | none=>simp [QA,hgd] at hg
        | some _=>exact .opt false d undef (by simp) (fun _=>rfl)
    · have hfoot:∀ k ∈ (QbM (fun x=>Qm G ((T j).ev x)) oj.op).1,S.hp[k]? = (T j).hp[k]?:=fun k hk'=>by
        rw [<- hF] at hk'
        exact (QkG h hi hoj hun hr hk').1
      have hcong:vop P (fun x=>Qm G (S.ev x)) S.hp oj.op = vop P (fun x=>Qm G ((T j).ev x)) S.hp oj.op:=Qf4 hk hevS
      cases hG:G with
      | true =>
        subst hG
        rw [if_pos rfl]
        simp only [cond_true] at hT
        have hdr:∀ {β':Map} {h':Qa} {w':World} {v:Value},RelD w' β' h' d v->RelD w' β' h' (Qcn oj.guard true d) v:=fun {β' h' w' v} k3=>by
          cases oj.guard with
          | none=>exact k3
          | some _=>exact .opt true d v (fun _=>k3) (by simp)
        rcases Qcw (hp':=S.hp) hk hfoot hv with ⟨w0,e1,e2⟩ | ⟨w1,k0,cs,e0,e1,e2⟩
        · rw [<- hcong] at e2
          subst e1
          have nb:∀ k,¬ wB F j k:=fun k hk=>by have:=hk.1; rw [hF,w0] at this; cases this
          refine (QcR (QcI e2) (QaJ hs.heap (hev rfl) (fun _=>rfl) e2) (fun v w' β' k1 k2 k3=>?_))
          exact next β' _ _ _ (hs.step k1 k2 (hdr k3) hf') (St.put_nt ..) (St.put_base ..) (by rw [St.put_hp]) (fun t ht=>St.put_look _ _ _ t ht) (fun t ht=>by rw [hT,putlook _ _ t ht,putlook _ _ t ht])
            (fun k _=>by rw [St.put_hp]) (fun k hk=>absurd hk (nb k))
        · rw [<- hcong] at e2
          subst e1
          refine (QcR (QcI e2) (QaJ hs.heap (hev rfl) (fun _=>rfl) e2) (fun v w' β' k1 k2 k3=>?_))
          have hwk:∀ k,wB F j k ↔ k = k0:=fun k=>by unfold wB; rw [hF,w1,e0]; simp
          refine next β' _ _ _ (hs.step k1 k2 (hdr k3) hf') (St.put_nt ..) (St.put_base ..) (by rw [St.put_hp]; show (Qp S.hp k0 cs).length = _; unfold Qp; split<;>simp) (fun t ht=>St.put_look _ _ _ t ht) (fun t ht=>by rw [hT,putlook _ _ t ht,putlook _ _ t ht]) (fun k hk=>?_) (fun k hk=>?_)
          · rw [St.put_hp]
            show (Qp S.hp k0 cs)[k]? = _
            have hne:k0 ≠ k:=fun he=>hk ((hwk k).2 he.symm)
            unfold Qp
            split
            · rw [List.getElem?_set_ne hne]
            · rfl
          · rw [(hwk k).1 hk,hT,St.put_hp,St.put_hp]
            show (Qp S.hp k0 cs)[k0]? = (Qp (T j).hp k0 cs)[k0]?
            have hsame:S.hp[k0]? = (T j).hp[k0]?:=hfoot k0 (by rw [e0]; simp)
            unfold Qp
            rw [hsame]
            cases hB:(T j).hp[k0]? with
            | none=>simp only; rw [hsame]
            | some B =>
              have l1:k0 < (T j).hp.length:=(List.getElem?_eq_some_iff.1 hB).1
              have l2:k0 < S.hp.length:=(List.getElem?_eq_some_iff.1 (hsame.trans hB)).1
              simp only
              rw [List.getElem?_set_self l1,List.getElem?_set_self l2]
      | false =>
        subst hG
        rw [if_neg (by simp)]
        refine ⟨fun _ _=>trivial,?_⟩
        simp only [cond_false] at hT
        refine next β _ _ (S.put oj.dst (Qcn oj.guard false d)) (hs.skip (d:=Qcn oj.guard false d) ?_ hf') (St.put_nt ..) (St.put_base ..) (by rw [St.put_hp]) (fun t ht=>St.put_look _ _ _ t ht) (fun t ht=>by rw [hT,putlook _ _ t ht,putlook _ _ t ht]) (fun k _=>by rw [St.put_hp]) (fun k hk=>?_)
        · cases hgd:oj.guard with
          | none=>simp [QA,hgd] at hg
          | some _=>exact .opt false d undef (by simp) (fun _=>rfl)
        · rw [hT,St.put_hp,St.put_hp]
          exact (QkG h hi hoj hun hr hk.2).1
    · have nb:∀ k,¬ wB F j k:=fun k hk=>by have:=hk.1; rw [hF] at this; cases this
      rw [if_neg (by simp)]
      refine ⟨fun _ _=>trivial,?_⟩
      exact next β _ _ _ (hs.skip (.tup [] #[] rfl (by simp)) hf') (St.put_nt ..) (St.put_base ..) (by rw [St.put_hp]) (fun t ht=>St.put_look _ _ _ t ht) (fun t ht=>by rw [hT,putlook _ _ t ht,putlook _ _ t ht]) (fun k _=>by rw [St.put_hp]) (fun k hk=>absurd hk (nb k))
end
theorem Qwz {P:Program} {rd:Option Nat} {n:Nat} {id:Nat} {ops:Array Oper} {Q:Exit->St->Prop} {S:St} (hm:P.follows .mixedOrders = true) (hB:Qdw ops = true) (h:vdr P ops.toList ops.toList [] (Q .normal) S):∀ (O:Org) (β:Map) (a:Act) (w:World),Sim O β S a w->(Code.region id ops true).wpIn (wd rd) n P (Qkz O Q) a w:=by
  intro O β a w hs
  obtain ⟨T,F,_,h2,h3,h4⟩:=Qcy ops.toList [] [] S rfl rfl h
  simp only [List.length_nil] at h2
  have hsteps:Steps P ops T F:=⟨fun j hj=>by
    obtain ⟨o,e1,e2,e3⟩:=h4 j (Nat.zero_le _) (by simpa using hj)
    exact ⟨o,by simpa using e1,e2,e3⟩,hB⟩
  have hs':Sim O β (T 0) a { w with drawn:=w.drawn + 1 }:=by
    rw [h2]
    have e:Evo w β S.hp w.drew β S.hp:=Qa5 w β S.hp
    exact ⟨hs.defers,hs.size,fun t=>(hs.tm t).mono e,hs.heap.drew,hs.evo.trans e,hs.base⟩
  refine wpIn_region_any hm (Qfp (O:=O) (Q:=Qkz O Q) hsteps (fun β a w hk=>⟨β,_,hk,by simpa using h3⟩) ops.size (Array.replicate ops.size false) a _ β (T 0) ?_ hs' ?_)
  · have:=List.countP_le_length (p:=fun i=>!(Array.replicate ops.size false).getD i false) (l:=List.range ops.size)
    simpa using this
  · have hfalse:∀ i,(Array.replicate ops.size false).getD i false = false:=fun i=>by
      by_cases hi:i < ops.size
      · simp [hi]
      · simp [hi]
    refine ⟨by simp,rfl,rfl,rfl,fun i o _ hl=>?_,fun t=>⟨0,Nat.zero_le _,rfl,fun i hi=>absurd hi (Nat.not_lt_zero _),fun i _ _=>hfalse i⟩,fun k=>⟨0,Nat.zero_le _,rfl,fun i hi=>absurd hi (Nat.not_lt_zero _),fun i _ _ _=>hfalse i⟩⟩
    rw [hfalse] at hl
    cases hl
inductive CutD (K:Nat) (ops0:Array Oper):Code->Code->Prop
  | skip:CutD K ops0 .skip .skip
  | exit (id:Nat) (h:(id == K) = false):CutD K ops0 (.exit id) (.exit id)
  | ret:CutD K ops0 .ret .ret
  | region (id:Nat) (ops:Array Oper):CutD K ops0 (.region id ops false) (.region id ops false)
  | draw (id:Nat):CutD K ops0 (.seq (.region id ops0 true) .ret) (.exit K)
  | seq {a a' b b':Code} (h:CutD K ops0 a a') (h':CutD K ops0 b b'):CutD K ops0 (.seq a b) (.seq a' b')
  | cond (c:Operand) {a a' b b':Code} (h:CutD K ops0 a a') (h':CutD K ops0 b b'):CutD K ops0 (.cond c a b) (.cond c a' b')
  | block (id:Nat) (hid:(id == K) = false) {a a':Code} (h:CutD K ops0 a a'):CutD K ops0 (.block id a) (.block id a')
theorem QjA {P:Program} {rd:Option Nat} {n K:Nat} {ops0:Array Oper} (hm:P.follows .mixedOrders = true) (hB:Qdw ops0 = true) {c c':Code} (hc:CutD K ops0 c c'):∀ (Q' Q:Exit->St->Prop),(∀ S,Q' (.exit K) S->vdr P ops0.toList ops0.toList [] (Q .ret) S)->(∀ e S,e ≠ .exit K->Q' e S->Q e S) ->
    ∀ (S:St),Qx P c' Q' S->∀ (O:Org) (β:Map) (a:Act) (w:World),Sim O β S a w->c.wpIn (wd rd) n P (Qkz O Q) a w:=by
  induction hc with
  | skip=>intro Q' Q hK hQ S h O β a w hs; exact wpIn_skip ⟨β,S,hs,hQ _ _ (by simp) h⟩
  | exit id hid=>intro Q' Q hK hQ S h O β a w hs; exact wpIn_exit ⟨β,S,hs,hQ _ _ (by simpa using hid) h⟩
  | ret=>intro Q' Q hK hQ S h O β a w hs; exact wpIn_ret ⟨β,S,hs,hQ _ _ (by simp) h⟩
  | region id ops =>
    intro Q' Q hK hQ S h O β a w hs
    unfold Qx at h
    simp only [Bool.false_eq_true,if_false] at h
    exact wpIn_region (Qf1 (P:=P) (rd:=rd) (n:=n) (O:=O) (ops:=ops) (Q:=Qkz O Q) (K:=Q' .normal) (fun β S a w hs hk=>⟨β,S,hs,hQ _ _ (by simp) hk⟩) β S a w hs h)
  | draw id =>
    intro Q' Q hK hQ S h O β a w hs
    refine wpIn_seq (wpIn_mono (Qwz (Q:=fun e S=>e = .normal/\Q .ret S) hm hB ?_ O β a w hs) ?_)
    · have:=hK S h
      have e:(fun S=>Exit.normal = Exit.normal/\Q Exit.ret S) = Q .ret:=by funext S; simp
      rw [e]; exact this
    · rintro e a' w' ⟨β',S',hs',rfl,q⟩
      exact wpIn_ret ⟨β',S',hs',q⟩
  | seq h h' ih ih' =>
    rename_i x x' y y'
    intro Q' Q hK hQ S hv O β a w hs
    unfold Qx at hv
    refine wpIn_seq (wpIn_mono (ih (Qab Q' (Qx P y' Q')) (Qab Q (Qx P y' Q')) hK (fun e S he hq=>?_) S hv O β a w hs) fun e a' w' hq=>?_)
    · cases e with
      | normal=>exact hq
      | _=>exact hQ _ _ he hq
    · obtain ⟨β',S',hs',hq⟩:=hq
      cases e with
      | normal=>exact ih' Q' Q hK hQ S' hq O β' a' w' hs'
      | _=>exact ⟨β',S',hs',hq⟩
  | cond c h h' ih ih' =>
    intro Q' Q hK hQ S hv O β a w hs
    unfold Qx at hv
    split at hv
    · rename_i t ht
      have hc:=hs.ev c
      rw [ht] at hc
      refine wpIn_cond_split (Qi hc) (fun e=>?_) (fun e=>?_)
      · exact ih Q' Q hK hQ S (hv.1 e) O β a w hs
      · exact ih' Q' Q hK hQ S (hv.2 e) O β a w hs
    · exact hv.elim
  | block id hid h ih =>
    intro Q' Q hK hQ S hv O β a w hs
    unfold Qx at hv
    have hne:K ≠ id:=fun e=>by subst e; simp at hid
    refine wpIn_block (wpIn_mono (ih (Qay id Q') (Qay id Q) (fun S hq=>?_) (fun e S he hq=>?_) S hv O β a w hs) fun e a' w' hq=>?_)
    · simp only [Qay,if_neg hne] at hq
      exact hK S hq
    · cases e with
      | exit id' =>
        simp only [Qay] at hq |-
        split
        · rename_i he'; rw [if_pos he'] at hq; exact hQ _ _ (by simp) hq
        · rename_i he'; rw [if_neg he'] at hq; exact hQ _ _ he hq
      | _=>exact hQ _ _ (by simp) hq
    · obtain ⟨β',S',hs',hq⟩:=hq
      cases e with
      | exit id' =>
        simp only [Qay] at hq
        simp only [Exit.inBlock]
        split
        · rename_i he; rw [if_pos he] at hq; exact ⟨β',S',hs',hq⟩
        · rename_i he; rw [if_neg he] at hq; exact ⟨β',S',hs',hq⟩
      | _=>exact ⟨β',S',hs',hq⟩
end Go.V
namespace Go.V
open Go.RowKit (Below)
structure Up (w w':World):Prop where
  size:w.heap.size<=w'.heap.size
  same:∀ (b:Nat) (C:Array Value) (T:TypeId) (m:Nat × Nat),w.heap[b]? = some (.cells C T m)->w'.heap[b]? = some (.cells C T m)
theorem Up.cell {w w':World} (u:Up w w') {a:Addr} {v:Value} (h:w.cell? a = some v):w'.cell? a = some v:=by
  obtain ⟨o,ho,hc⟩:=cells_of_cell h
  cases o with
  | cells C T m=>exact (World.cell?_of_block (by rw [u.same _ _ _ _ ho,ho])).trans h
  | _=>simp [Obj.isCells] at hc
theorem RelP.up {w w':World} {im:Nat->Prop} {p:PV} {v:Value} (h:RelP w im p v) (u:Up w w'):RelP w' im p v:=by
  induction h with
  | lit v h=>exact .lit v h
  | str l=>exact .str l
  | sl xs a cap sz val h1 h2 h3 h4 h5 _ ih =>
    refine .sl xs a cap sz val h1 h2 h3 h4 (fun i j c d hc hd=>?_) (fun i j c d hc hd=>ih i j c d hc hd)
    obtain ⟨ad,e,hb,hn,hcell⟩:=h5 i j c d hc hd
    exact ⟨ad,e,Nat.lt_of_lt_of_le hb u.size,hn,u.cell hcell⟩
  | slc xs a sz val h2 h3 h4 h5 _ ih =>
    refine .slc xs a sz val h2 h3 h4 (fun i j c d hc hd=>?_) (fun i j c d hc hd=>ih i j c d hc hd)
    obtain ⟨ad,e,hb,hn,hcell⟩:=h5 i j c d hc hd
    exact ⟨ad,e,Nat.lt_of_lt_of_le hb u.size,hn,u.cell hcell⟩
theorem RelD.up {w w':World} {β:Map} {hp:Qa} {d:DV} {v:Value} (h:RelD w β hp d v) (u:Up w w'):RelD w' β hp d v:=by
  induction h with
  | pv p v h=>exact .pv p v (h.up u)
  | ptr k off b h hb=>exact .ptr k off b h hb
  | own k sz off len cap b C T m h hb h1 h2 h3 h4=>exact .own k sz off len cap b C T m h hb h1 h2 (u.same _ _ _ _ h3) h4
  | ownc k sz off len cap b o C T m h hb h1 h2 h3 h4 h5=>exact .ownc k sz off len cap b o C T m h hb h1 h2 (u.same _ _ _ _ h3) h4 h5
  | own0 k sz a h hb ha=>exact .own0 k sz a h hb ha
  | ip cs ad val h1 h2 h3 =>
    exact .ip cs ad val h1 (fun j d hd=>⟨Nat.lt_of_lt_of_le (h2 j d hd).1 u.size,(h2 j d hd).2.1,u.cell (h2 j d hd).2.2⟩) (fun j d hd=>(h3 j d hd).up u)
  | agg ds vs h _ ih=>exact .agg ds vs h ih
  | fn f ds es vs us h h' _ _ ih ih'=>exact .fn f ds es vs us h h' ih ih'
  | tup ds vs h _ ih=>exact .tup ds vs h ih
  | opt c d v _ hf ih=>exact .opt c d v ih hf
  | any v=>exact .any v
theorem HeapRel.up {w w':World} {β:Map} {hp:Qa} (h:HeapRel w β hp) (u:Up w w'):HeapRel w' β hp:=by
  refine ⟨fun k B b hk hl hb=>?_,h.none,h.inj,h.avoid,fun b hb=>Nat.lt_of_lt_of_le (h.bound b hb) u.size⟩
  obtain ⟨C,c1,c2,c3⟩:=h.blk k B b hk hl hb
  exact ⟨C,u.same _ _ _ _ c1,c2,fun i d hd=>⟨(c3 i d hd).1,(c3 i d hd).2.up u⟩⟩
theorem Up.grown {w w':World} {row:Option Nat} (hg:w.grownBy w' row) (hr:∀ r,row = some r->∃ o:Obj,w.heap[r]? = some o/\o.isCells = false):Up w w':=by
  refine ⟨hg.size,fun b C T m hb=>?_⟩
  rw [grownBy_keeps_cells hg hr hb rfl]; exact hb
theorem Evo.grown {w W W':World} {β β':Map} {hp hp':Qa} (e:Evo w β hp W β' hp') {row:Option Nat} (hg:W.grownBy W' row) (hr:∀ r,row = some r->w.heap.size<=r/\∃ o:Obj,W.heap[r]? = some o/\o.isCells = false):Evo w β hp W' β' hp':=by
  have u:=Up.grown hg (fun r h=>(hr r h).2)
  refine ⟨hg.os.trans e.os,hg.tape.trans e.tape,hg.output.trans e.output,Nat.le_trans e.size hg.size,e.len,e.beta,fun b hb hl=>?_,fun b C T m hb=>?_,e.im,e.X⟩
  · rw [hg.block b (Nat.lt_of_lt_of_le hb e.size) (fun h=>by have:=(hr b h.symm).1; omega)]
    exact e.same b hb hl
  · obtain ⟨C',m',h1,h2⟩:=e.shape b C T m hb
    exact ⟨C',m',u.same _ _ _ _ h1,h2⟩
theorem Evo.others {w W:World} {β β':Map} {hp hp':Qa} (hh:HeapRel w β hp) (e:Evo w β hp W β' hp'):KeepsOthers w W:=by
  refine ⟨e.size,fun k o hk ho=>?_⟩
  rw [e.same k (Array.getElem?_eq_some_iff.1 hk).1 ?_]
  · exact hk
  rintro ⟨j,B,h1,h2,h3⟩
  obtain ⟨C,c1,_⟩:=hh.blk j B k h1 h2 h3
  rw [hk] at c1
  cases c1
  cases ho
theorem Qgs {hp0 hp:Qa} (h:hp.take hp0.length = hp0) {k:Nat} {B:Blk} (hk:hp0[k]? = some B):hp[k]? = some B:=by
  rw [<- h,List.getElem?_take] at hk
  split at hk
  · exact hk
  · cases hk
theorem HeapRel.pre {w:World} {β:Map} {hp0 hp:Qa} (hh:HeapRel w β hp) (h:hp.take hp0.length = hp0) (hr:∀ (k:Nat) (B:Blk),hp0[k]? = some B->DV.refs.go hp0.length B.cells = true):HeapRel w β hp0:=by
  have lv:∀ b,live β hp0 b->live β hp b:=fun b ⟨j,B,h1,h2,h3⟩=>⟨j,B,Qgs h h1,h2,h3⟩
  refine ⟨fun k B b hk hl hb=>?_,fun k B hk=>hh.none k B (Qgs h hk),fun j k B B' b hj hk=>hh.inj j k B B' b (Qgs h hj) (Qgs h hk),fun k B b hk=>hh.avoid k B b (Qgs h hk),hh.bound⟩
  obtain ⟨C,c1,c2,c3⟩:=hh.blk k B b (Qgs h hk) hl hb
  refine ⟨C,c1,c2,fun i d hd=>⟨(c3 i d hd).1,(c3 i d hd).2.drop (DV.refs_go (hr k B hk) i d hd) (fun b hb=>hb.imp id (lv b))⟩⟩
theorem Evo.pre {w W:World} {β β':Map} {hp0 hp hp1:Qa} (e:Evo w β hp0 W β' hp) (hl:hp0.length<=hp1.length) (h:hp.take hp1.length = hp1):Evo w β hp0 W β' hp1:=
  ⟨e.os,e.tape,e.output,e.size,hl,e.beta,e.same,e.shape,fun b hb ⟨j,B,h1,h2,h3⟩=>e.im b hb ⟨j,B,Qgs h h1,h2,h3⟩,e.X⟩
def Lies (w:World) (β:Map) (hp:Qa) (W:World):Prop:=∃ β1,HeapRel W β1 hp/\Evo w β hp W β1 hp
theorem Lies.grown {w W W':World} {β:Map} {hp:Qa} (h:Lies w β hp W) {row:Option Nat} (hg:W.grownBy W' row) (hr:∀ r,row = some r->w.heap.size<=r/\∃ o:Obj,W.heap[r]? = some o/\o.isCells = false):Lies w β hp W':=by
  obtain ⟨β1,h1,h2⟩:=h
  exact ⟨β1,h1.up (Up.grown hg fun r h=>(hr r h).2),h2.grown hg hr⟩
def QEP (w:World) (β:Map) (hp:Qa) (W W':World):Prop:=Lies w β hp W->Lies w β hp W'
def down (n:Nat):List (Fin n):=(List.finRange n).reverse
def Qv0 (xs:List (List PV)) (i:Nat):DV:=.agg ((xs.getD i []).map .pv)
def QCs (P:Program) (gf:Nat) (cap:DV) (hp:Qa) (xs:List (List PV)):Prop :=
  ∀ (w:World) (β:Map) (vcap:Value),HeapRel w β hp->RelD w β hp cap vcap->∃ V:Nat->Value,(∀ i,i < xs.length->RelD w β hp (Qv0 xs i) (V i)) /\
    SeqStopsK Fence.wide 9 P gf #[vcap] (fun i:Fin xs.length=>#[.int .i64 (i.1:Int),V i.1]) (QEP w β hp) (fun l=>l = down xs.length) (fun l=>l <+: down xs.length) xs.length w
theorem Qcf {t:Array Value} {p q:Nat} {v:Value} (h:p < t.size):(t.setIfInBounds p v).getD q undef = if p = q then v else t.getD q undef:=by
  by_cases e:p = q
  · subst e; simp [h]
  · simp [e,Array.getD_eq_getD_getElem?]
def Qv5 (a:Act) (w:World) (β:Map) (hp:Qa) (n:Nat) (hit:Nat->Bool) (Rr:Nat->Qa->Prop) (e:Exit) (a':Act) (W:World):Prop :=
  ∃ D,w.heap.size<=D/\W.heap[D]? = some (.deferred (some []))/\a' = { a with defers:={ target:=.collected D,args:=#[] } :: a.defers } /\
    ((e = .normal/\(∀ i,i < n->hit i = false)/\Lies w β hp W) \/
     (e = .ret/\∃ i β1 hp',i < n/\hit i = true/\(∀ j,i < j->j < n->hit j = false)/\HeapRel W β1 hp'/\Evo w β hp W β1 hp'/\Rr i hp'))
theorem Qnx {n k:Nat} (h:k < (down n).length):((down n)[k]).1 + k + 1 = n:=by
  have hl:(down n).length = n:=by simp [down]
  simp only [down,List.getElem_reverse,List.getElem_finRange,List.length_finRange]
  simp
  omega
theorem QlT {n:Nat} {q:List (Fin n)} {i:Fin n} (h:q ++ [i] <+: down n):∀ j:Fin n,i < j->j ∈ q:=by
  intro j hij
  have hl:(down n).length = n:=by simp [down]
  have hle:=h.length_le
  rw [List.length_append,List.length_singleton,hl] at hle
  have e1:(down n)[q.length]'(by omega) = i:=by
    have:=h.getElem (i:=q.length) (by simp)
    rw [<- this]; simp
  have h1:=Qnx (n:=n) (k:=q.length) (by omega)
  rw [e1] at h1
  have hk:n - 1 - j.1 < q.length:=by have:=j.2; omega
  have e2:=h.getElem (i:=n - 1 - j.1) (by rw [List.length_append]; omega)
  have h2:=Qnx (n:=n) (k:=n - 1 - j.1) (by omega)
  have e3:(down n)[n - 1 - j.1]'(by omega) = j:=Fin.ext (by have:=j.2; omega)
  rw [e3,List.getElem_append_left hk] at e2
  exact e2 ▸ List.getElem_mem hk
def BodyOf (P:Program) (body:Code) (B:(Exit->St->Prop)->St->Prop):Prop:=
  ∀ (rd:Option Nat) (n:Nat) (Q:Exit->St->Prop) (S:St),B Q S->∀ (O:Org) (β:Map) (a:Act) (w:World),Sim O β S a w->body.wpIn (wd rd) n P (Qkz O Q) a w
theorem BodyOf.plain {P:Program} {body:Code} (h:QaA body = true):BodyOf P body (Qx P body):=fun _ _ Q S hv O β a w hs=>Q0 body Q S h hv O β a w hs
def QAR (P:Program) (K:Nat) (ops0:Array Oper) (body':Code) (Q:Exit->St->Prop) (S:St):Prop:=
  Qx P body' (fun e S'=>match e with | .exit k=>if k = K then vdr P ops0.toList ops0.toList [] (Q .ret) S' else Q (.exit k) S' | e=>Q e S') S
theorem BodyOf.cut {P:Program} {K:Nat} {ops0:Array Oper} {body body':Code} (hm:P.follows .mixedOrders = true) (hB:Qdw ops0 = true) (hc:CutD K ops0 body body'):BodyOf P body (QAR P K ops0 body'):=fun _ _ Q S hv O β a w hs=>
  QjA hm hB hc _ Q (fun S h=>by simpa using h) (fun e S he h=>by
    cases e with
    | exit k =>
      dsimp only at h
      rw [if_neg (fun e=>he (by rw [e]))] at h
      exact h
    | _=>exact h) S hv O β a w hs
def QkW (P:Program) (S:St) (assign:Code) (B:(Exit->St->Prop)->St->Prop) (hit:Bool) (Rr:Qa->Prop) (S0:St):Prop :=
  Qx P assign (fun e S1=>e = .normal/\S1.hp.take S.hp.length = S.hp /\
    B (fun e S'=>match e with | .normal=>hit = false/\S'.hp.take S.hp.length = S.hp | .ret=>hit = true/\Rr S'.hp | _=>False) { S1 with base:=S1.hp.length }) S0
theorem QC5 {P:Program} {O:Org} {β:Map} {S:St} {a:Act} {w:World} (hs:Sim O β S a w) {g:Operand} {p0 p1:Tmp} {assign body:Code} {gf:Nat} {cap:DV} {xs:List (List PV)} {fn:Func}
    (hgS:S.ev g = .fn (.func gf) [] [cap]) (hf1:P.funcs[gf]? = some fn) (hf2:(fn.name == "runtime.NumGoroutine") = false) (hf3:fn.body.isNone = false)
    (hV:QCs P gf cap S.hp xs) (h0:p0 < S.nt) (h1:p1 < S.nt) (hrefs:∀ (k:Nat) (B:Blk),S.hp[k]? = some B->DV.refs.go S.hp.length B.cells = true)
    (hit:Nat->Bool) (Rr:Nat->Qa->Prop) (hpa:QaA assign = true) {B:(Exit->St->Prop)->St->Prop} (hB:BodyOf P body B)
    (hbody:∀ i,i < xs.length->QkW P S assign B (hit i) (Rr i) ⟨S.nt,S.hp.length,(p1,Qv0 xs i) :: (p0,.int .i64 i) :: S.tm,S.hp⟩) :
    (Code.rangeFunc g #[p0,p1] assign body).wp P (Qv5 a w β S.hp xs.length hit Rr) a w:=by
  have hgv:=hs.ev g
  rw [hgS] at hgv
  generalize hv:a.eval g = gv at hgv
  cases hgv with
  | fn _ _ _ vs us l1 l2 r1 r2=>
  have hvs:vs = #[]:=Array.eq_empty_of_size_eq_zero l1.symm
  subst hvs
  obtain ⟨vcap,rfl⟩:∃ vcap,us = #[vcap]:=by
    have:us.toList.length = 1:=by simpa using l2.symm
    obtain ⟨x,hx⟩:=List.length_eq_one_iff.1 this
    exact ⟨x,by rw [<- Array.toArray_toList (xs:=us),hx]⟩
  have hcap:RelD w β S.hp cap vcap:=r2 0 cap rfl
  obtain ⟨V,hVr,hseq⟩:=hV w β vcap hs.heap hcap
  have hsz:=hs.size
  rw [<- wpIn_wide (n:=10)]
  refine wpIn_rangeFunc_ownH (F:=Fence.wide) (n:=10) rfl (by decide) (gf:=gf) (lb:=#[vcap]) hv trivial (fun args w=>Qbb hf1 hf2 hf3 args w) hseq (fun h k x=>k (h x))
    (fun W l o o' hl ho hc _ hL=>hL.grown (grownBy_putObj' W l o') (fun r e=>by cases e; exact ⟨hl,o,ho,hc⟩)) (Below.refl _ _) (fun _=>rfl)
    (fun pre W=>Lies w β S.hp W/\∀ i ∈ pre,hit i.1 = false)
    (fun c pre W=>c = .ret/\∃ (q:List (Fin xs.length)) (i:Fin xs.length) (β1:Map) (hp':Qa),pre = q ++ [i]/\(∀ j ∈ q,hit j.1 = false)/\hit i.1 = true/\HeapRel W β1 hp'/\Evo w β S.hp W β1 hp'/\Rr i.1 hp')
    (fun s A B row h hg hr=>⟨h.1.grown hg hr,h.2⟩)
    (fun c s A B row h hg hr=>by
      obtain ⟨hc,q,i,β1,hp',e1,e2,e3,e4,e5,e6⟩:=h
      exact ⟨hc,q,i,β1,hp',e1,e2,e3,e4.up (Up.grown hg fun r h=>(hr r h).2),e5.grown hg hr,e6⟩)
    ⟨⟨β,hs.heap,Evo.refl _ _ _⟩,by simp⟩
    (fun i a' W=>∃ (β1:Map) (S1:St),a'.defers = []/\a'.tmps.size = S1.nt/\(∀ t,RelD W β1 S1.hp (look S1.tm t) (a'.tmps.getD t undef))/\HeapRel W β1 S1.hp/\Evo w β S.hp W β1 S1.hp /\
      B (fun e S'=>match e with | .normal=>hit i.1 = false/\S'.hp.take S.hp.length = S.hp | .ret=>hit i.1 = true/\Rr i.1 S'.hp | _=>False) { S1 with base:=S1.hp.length })
    (fun i a' s A B row h hg hr=>by
      obtain ⟨β1,S1,e1,e2,e3,e4,e5,e6⟩:=h
      have u:=Up.grown hg fun r h=>(hr r h).2
      exact ⟨β1,S1,e1,e2,fun t=>(e3 t).up u,e4.up u,e5.grown hg hr,e6⟩)
    ?assign ?body ?done ?stop
  case assign=>
    rintro l pre i W K ⟨⟨β1,hh,ev⟩,hpre⟩ hK
    have e1:(Array.zip #[p0,p1] #[Value.int .i64 (i.1:Int),V i.1]).foldl (fun (t:Array Value) (x:Tmp × Value)=>t.setIfInBounds x.1 x.2) a.tmps = (a.tmps.setIfInBounds p0 (.int .i64 (i.1:Int))).setIfInBounds p1 (V i.1):=by simp
    rw [e1]
    have hx:=(hVr i.1 i.2).mono ev
    have hsim:Sim ⟨W,β1,S.hp,[]⟩ β1 ⟨S.nt,S.hp.length,(p1,Qv0 xs i.1) :: (p0,.int .i64 i.1) :: S.tm,S.hp⟩ { tmps:=(a.tmps.setIfInBounds p0 (.int .i64 (i.1:Int))).setIfInBounds p1 (V i.1),defers:=[] } W:=by
      refine ⟨rfl,by simpa using hsz,fun t=>?_,hh,Evo.refl _ _ _,rfl⟩
      dsimp only
      rw [Qcf (by simpa [hsz] using h1),Qcf (by simpa [hsz] using h0)]
      simp only [look]
      split
      · exact hx
      split
      · exact .pv _ _ (.lit _ rfl)
      · exact (hs.tm t).mono ev
    refine wpIn_mono (Q0 (rd:=some l) (n:=8) assign _ _ hpa (hbody i.1 i.2) _ _ _ _ hsim) ?_
    rintro e a' W' ⟨β2,S1,hs1,rfl,hq,hc⟩
    have hL:Lies w β S.hp W':=⟨β2,hs1.heap.pre hq hrefs,(ev.trans hs1.evo).pre (Nat.le_refl _) hq⟩
    exact hK a' W' ((Evo.others hh hs1.evo).from _) (fun _=>hL) ⟨hL,hpre⟩ ⟨β2,S1,hs1.defers,hs1.size,hs1.tm,hs1.heap,ev.trans hs1.evo,hc⟩
  case body=>
    rintro l pre i a' W hl _ ⟨hL0,hpre⟩ ⟨β1,S1,e1,e2,e3,hh,ev,hc⟩ hlen
    have hsim:Sim ⟨W,β1,S1.hp,[]⟩ β1 { S1 with base:=S1.hp.length } a' W:=⟨e1,e2,e3,hh,Evo.refl _ _ _,rfl⟩
    refine wpIn_mono (hB (some l) 8 _ _ hc _ _ _ _ hsim) ?_
    rintro e a'' W' ⟨β2,S',hs',hq⟩
    have hoth:KeepsFrom w.heap.size W W':=(Evo.others hh hs'.evo).from _
    have hev:Evo w β S.hp W' β2 S'.hp:=ev.trans hs'.evo
    cases e with
    | normal =>
      have hL:Lies w β S.hp W':=⟨β2,hs'.heap.pre hq.2 hrefs,hev.pre (Nat.le_refl _) hq.2⟩
      exact ⟨hoth,fun _=>hL,hL,fun j hj=>by
        rcases List.mem_append.1 hj with hj | hj
        · exact hpre j hj
        · rw [List.mem_singleton.1 hj]; exact hq.1⟩
    | ret=>exact ⟨hoth,rfl,pre,i,β2,S'.hp,rfl,hpre,hq.1,hs'.heap,hev,hq.2⟩
    | _=>exact hq.elim
  case done=>
    rintro D ys W hD rfl ⟨hL,hall⟩ hK
    exact ⟨D,hD,hK,rfl,.inl ⟨rfl,fun i hi=>hall ⟨i,hi⟩ (by simp [down]),hL⟩⟩
  case stop=>
    rintro D c pre W hD hSp ⟨rfl,q,i,β1,hp',rfl,e2,e3,e4,e5,e6⟩ hK
    refine wpIn_ret ⟨D,hD,hK,rfl,.inr ⟨rfl,i.1,β1,hp',i.2,e3,fun j hij hj=>?_,e4,e5,e6⟩⟩
    exact e2 ⟨j,hj⟩ (QlT hSp ⟨j,hj⟩ hij)
end Go.V
namespace Go.V
structure SimE (O:Org) (β:Map) (S:St) (a:Act) (w:World):Prop where
  size:a.tmps.size = S.nt
  tm:∀ t,RelD w β S.hp (look S.tm t) (a.tmps.getD t undef)
  heap:HeapRel w β S.hp
  evo:Evo O.w O.β O.hp w β S.hp
  mark:a.defers = O.ds\/∃ D,a.defers = { target:=.collected D,args:=#[] } :: O.ds/\w.heap[D]? = some (.deferred (some []))/\O.w.heap.size<=D
def St.reb (S:St):St:={ S with base:=S.hp.length }
theorem SimE.reb {O:Org} {β:Map} {S:St} {a:Act} {w:World} (h:SimE O β S a w):Sim ⟨w,β,S.hp,a.defers⟩ β S.reb a w:=⟨rfl,h.size,h.tm,h.heap,Evo.refl _ _ _,rfl⟩
theorem SimE.on {O:Org} {β β':Map} {S S':St} {a a':Act} {w w':World} (h:SimE O β S a w) (h':Sim ⟨w,β,S.hp,a.defers⟩ β' S' a' w'):SimE O β' S' a' w':=by
  refine ⟨h'.size,h'.tm,h'.heap,h.evo.trans h'.evo,?_⟩
  rw [h'.defers]
  rcases h.mark with e | ⟨D,e,hD,hl⟩
  · exact .inl e
  · exact .inr ⟨D,e,(Evo.others h.heap h'.evo).same D _ hD rfl,hl⟩
def QBN (O:Org) (Q:Exit->St->Prop):Exit->Act->World->Prop:=fun e a w=>∃ β S,SimE O β S a w/\Q e S
def VWpE (P:Program) (c:Code) (Q:Exit->St->Prop) (S:St):Prop:=∀ (O:Org) (β:Map) (a:Act) (w:World),SimE O β S a w->c.wp P (QBN O Q) a w
def VWp0 (P:Program) (c:Code) (Q:Exit->St->Prop) (S:St):Prop:=∀ (O:Org) (β:Map) (a:Act) (w:World),SimE O β S a w->a.defers = O.ds->c.wp P (QBN O Q) a w
theorem VWpE.plain {P:Program} {c:Code} {Q:Exit->St->Prop} {S:St} (h:Qx P c Q S.reb):VWpE P c Q S:=fun O β a w hs=>
  wp_mono (Qu c Q _ h _ _ _ _ hs.reb) fun _ _ _ ⟨β',S',h',q⟩=>⟨β',S',hs.on h',q⟩
theorem VWp0.first {P:Program} {x y:Code} {Q:Exit->St->Prop} {S:St} (h:Qx P x (Qab Q (VWp0 P y Q)) S.reb):VWp0 P (.seq x y) Q S:=fun O β a w hs hd=>by
  refine wp_seq (wp_mono (Qu x _ _ h _ _ _ _ hs.reb) fun e a' w' hq=>?_)
  obtain ⟨β',S',h',q⟩:=hq
  cases e with
  | normal=>exact q O β' a' w' (hs.on h') (h'.defers.trans hd)
  | _=>exact ⟨β',S',hs.on h',q⟩
theorem VWp0.then {P:Program} {x y:Code} {Q:Exit->St->Prop} {S:St} (h:VWp0 P x (Qab Q (VWpE P y Q)) S):VWp0 P (.seq x y) Q S:=fun O β a w hs hd=>by
  refine wp_seq (wp_mono (h O β a w hs hd) fun e a' w' hq=>?_)
  obtain ⟨β',S',h',q⟩:=hq
  cases e with
  | normal=>exact q O β' a' w' h'
  | _=>exact ⟨β',S',h',q⟩
theorem VWp0.block {P:Program} {id:Nat} {c:Code} {Q:Exit->St->Prop} {S:St} (h:VWp0 P c (Qay id Q) S):VWp0 P (.block id c) Q S:=fun O β a w hs hd=>by
  refine wp_block (wp_mono (h O β a w hs hd) fun e a' w' hq=>?_)
  obtain ⟨β',S',hs',hq⟩:=hq
  cases e with
  | exit id' =>
    simp only [Qay] at hq
    simp only [Exit.inBlock]
    split
    · rename_i he; rw [if_pos he] at hq; exact ⟨β',S',hs',hq⟩
    · rename_i he; rw [if_neg he] at hq; exact ⟨β',S',hs',hq⟩
  | _=>exact ⟨β',S',hs',hq⟩
theorem VWp0.down {P:Program} {Q:Exit->St->Prop} {S:St} {g:Operand} {p0 p1:Tmp} {assign body:Code} {gf:Nat} {cap:DV} {xs:List (List PV)} {fn:Func}
    (hgS:S.ev g = .fn (.func gf) [] [cap]) (hf1:P.funcs[gf]? = some fn) (hf2:(fn.name == "runtime.NumGoroutine") = false) (hf3:fn.body.isNone = false)
    (hV:QCs P gf cap S.hp xs) (h0:p0 < S.nt) (h1:p1 < S.nt) (hrefs:∀ (k:Nat) (B:Blk),S.hp[k]? = some B->DV.refs.go S.hp.length B.cells = true)
    (hit:Nat->Bool) (Rr:Nat->Qa->Prop) (hpa:QaA assign = true) {B:(Exit->St->Prop)->St->Prop} (hB:BodyOf P body B)
    (hbody:∀ i,i < xs.length->QkW P S assign B (hit i) (Rr i) ⟨S.nt,S.hp.length,(p1,Qv0 xs i) :: (p0,.int .i64 i) :: S.tm,S.hp⟩)
    (hdone:(∀ i,i < xs.length->hit i = false)->Q .normal S)
    (hret:∀ i hp',i < xs.length->hit i = true->(∀ j,i < j->j < xs.length->hit j = false)->Rr i hp'->Q .ret { S with hp:=hp' }) :
    VWp0 P (Code.rangeFunc g #[p0,p1] assign body) Q S:=fun O β a w hs hd=>by
  refine wp_mono (QC5 (hs.reb) hgS hf1 hf2 hf3 hV h0 h1 hrefs hit Rr hpa hB hbody) ?_
  rintro e a' W ⟨D,hD,hK,rfl,⟨rfl,hall,β1,hh,ev⟩ | ⟨rfl,i,β1,hp',hi,hhit,hno,hh,ev,hR⟩⟩
  · exact ⟨β1,S,⟨hs.size,fun t=>(hs.tm t).mono ev,hh,hs.evo.trans ev,.inr ⟨D,by rw [hd],hK,Nat.le_trans hs.evo.size hD⟩⟩,hdone hall⟩
  · exact ⟨β1,{ S with hp:=hp' },⟨hs.size,fun t=>(hs.tm t).mono ev,hh,hs.evo.trans ev,.inr ⟨D,by rw [hd],hK,Nat.le_trans hs.evo.size hD⟩⟩,hret i hp' hi hhit hno hR⟩
theorem Qf6 {P:Program} {g:FuncId} {args:List DV} {h:Qa} {R:DV->Qa->Prop} {fn:Func} {c:Code} (hf:P.funcs[g]? = some fn) (hb:fn.body = some c) (hname:(fn.name == "runtime.NumGoroutine") = false) (hn:args.length<=fn.ntmps)
    (hc:VWp0 P c (Qcv P fn.results.toList h.length R) ⟨fn.ntmps,h.length,QfV 0 args,h⟩):VCalls P g args h R:=by
  refine ⟨fun w β vs hh ha=>.inl ⟨fn,hf,hname,by rw [hb]; rfl,?_⟩⟩
  refine callsIn_wide.1 (callsIn_of_wp_marks (n:=1) hf hb trivial (wpIn_wide.2 ?_))
  have hsz:vs.size = args.length:=ha.1.symm
  have hs:SimE ⟨w,β,h,[]⟩ β ⟨fn.ntmps,h.length,QfV 0 args,h⟩ { tmps:=vs ++ Array.replicate (fn.ntmps - vs.size) undef,defers:=[] } w:=by
    refine ⟨by simp; omega,fun t=>?_,hh,Evo.refl w β h,.inl rfl⟩
    rw [QgG,if_pos (Nat.zero_le _),Nat.sub_zero]
    cases ht:args[t]? with
    | none=>exact .any _
    | some d =>
      have hlt:t < vs.size:=by rw [hsz]; exact (List.getElem?_eq_some_iff.1 ht).1
      have e:(vs ++ Array.replicate (fn.ntmps - vs.size) undef).getD t undef = vs.getD t undef:=by
        simp only [Array.getD_eq_getD_getElem?]; rw [Array.getElem?_append_left hlt]
      show RelD w β h d ((vs ++ Array.replicate (fn.ntmps - vs.size) undef).getD t undef)
      rw [e]
      exact ha.2 t d ht
  refine wp_mono (hc _ β _ w hs rfl) fun e a' w' hq=>?_
  obtain ⟨β',S',hs',hq⟩:=hq
  -- the end,in a world that is the same but for blocks without cells
  have fin:∀ W',Up w' W'->Evo w β h W' β' S'.hp->∀ d,QD P S' fn.results.toList = some d->Qtw h.length S'.hp d R->∃ v,(results fn a'.tmps).run P W' = .ok v W'/\∃ v' r h' β'',Ending.returned v = .returned v'/\Evo w β h W' β'' h'/\HeapRel W' β'' h'/\RelD W' β'' h' r v'/\R r h':=by
    intro W' u ev d hr hend
    have hsim:Sim ⟨W',β',S'.hp,a'.defers⟩ β' S'.reb a' W':=⟨rfl,hs'.size,fun t=>(hs'.tm t).up u,hs'.heap.up u,Evo.refl _ _ _,rfl⟩
    obtain ⟨v,r1,r2⟩:=QbF (P:=P) (fn:=fn) (d:=d) hsim (by
      have e:Qjk P S'.reb = Qjk P S':=by funext r; cases r<;>rfl
      unfold QD at hr |-
      rw [e]; exact hr)
    obtain ⟨d',hp',k1,k2,k3,k4,k5⟩:=Qc1 (hs'.heap.up u) ev.len r2 hend
    exact ⟨v,r1,v,d',hp',β',rfl,⟨ev.os,ev.tape,ev.output,ev.size,by omega,ev.beta,ev.same,ev.shape,fun b hb hl=>ev.im b hb (k5 b hl),ev.X⟩,k3,k2,k1⟩
  have key:(∃ d,QD P S' fn.results.toList = some d/\Qtw h.length S'.hp d R)->LeavesInM Fence.wide 1 P fn a'.tmps (fun e w'=>∃ v r h' β',e = .returned v/\Evo w β h w' β' h'/\HeapRel w' β' h'/\RelD w' β' h' r v/\R r h') a'.defers .returning w':=by
    rintro ⟨d,hr,hend⟩
    rcases hs'.mark with e0 | ⟨D,e0,hD,hl⟩
    · rw [e0]
      exact fin w' ⟨Nat.le_refl _,fun _ _ _ _ h=>h⟩ hs'.evo d hr hend
    · rw [e0]
      refine ⟨by simp,.inl ⟨D,_,rfl,run_takeDeferred hD,?_⟩⟩
      have hg:=grownBy_putObj' w' D (.deferred none)
      have hg2:∀ r,some D = some r->w.heap.size<=r/\∃ o:Obj,w'.heap[r]? = some o/\o.isCells = false:=fun r e=>by cases e; exact ⟨hl,_,hD,rfl⟩
      exact fin _ (Up.grown hg fun r h=>(hg2 r h).2) (hs'.evo.grown hg hg2) d hr hend
  unfold Qcv at hq
  cases e with
  | normal =>
    dsimp only at hq
    split at hq
    · rename_i d hd; exact key ⟨d,hd,hq⟩
    · exact hq.elim
  | ret =>
    dsimp only at hq
    split at hq
    · rename_i d hd; exact key ⟨d,hd,hq⟩
    · exact hq.elim
  | _=>exact hq.elim
end Go.V
namespace Go.V
structure Gc (keep:List Nat) (S S':St):Prop where
  nt:S'.nt = S.nt
  base:S'.base = S.base
  low:∀ k,k < S.base->keep[k]? = some k
  nodup:keep.Nodup
  len:S'.hp.length = keep.length
  hp:∀ (i k:Nat),keep[i]? = some k->∃ B B',S.hp[k]? = some B/\S'.hp[i]? = some B'/\B'.ty = B.ty/\B'.live = B.live/\B'.cells = B.cells.map (DV.ren fun k=>keep.idxOf k)/\(B.live = true->DV.nums.go keep.contains B.cells = true)
  tm:∀ t,V.look S'.tm t = .any\/(V.look S'.tm t = (V.look S.tm t).ren (fun k=>keep.idxOf k)/\(V.look S.tm t).nums keep.contains = true)
theorem Sim.gc {O:Org} {β:Map} {S S':St} {a:Act} {w:World} {keep:List Nat} (h:Sim O β S a w) (g:Gc keep S S'):∃ β',Sim O β' S' a w:=by
  let β':Map:=⟨fun i=>(keep[i]?).bind β.f,β.X⟩
  have hO:O.hp.length = S.base:=h.base
  have back:∀ {i:Nat} {B':Blk},S'.hp[i]? = some B'->∃ k B,keep[i]? = some k/\S.hp[k]? = some B/\B'.ty = B.ty/\B'.live = B.live/\B'.cells = B.cells.map (DV.ren fun k=>keep.idxOf k)/\(B.live = true->DV.nums.go keep.contains B.cells = true)/\β'.f i = β.f k:=by
    intro i B' hi
    have hlt:i < keep.length:=by rw [<- g.len]; exact (List.getElem?_eq_some_iff.1 hi).1
    have hk:keep[i]? = some keep[i]:=List.getElem?_eq_getElem hlt
    obtain ⟨B,B'',h1,h2,h3,h4,h5,h6⟩:=g.hp i _ hk
    rw [hi] at h2
    cases h2
    exact ⟨_,B,hk,h1,h3,h4,h5,h6,by simp [β',hk]⟩
  have hsub:∀ b,live β' S'.hp b->live β S.hp b:=by
    rintro b ⟨i,B',h1,h2,h3⟩
    obtain ⟨k,B,_,k2,_,k4,_,_,k7⟩:=back h1
    exact ⟨k,B,k2,by rw [<- k4]; exact h2,by rw [<- k7]; exact h3⟩
  have him:∀ b,img β' S'.hp b->img β S.hp b:=fun b hb=>hb.imp id (hsub b)
  have hσ:∀ k,keep.contains k = true->k < S.hp.length->keep.idxOf k < S'.hp.length/\β'.f (keep.idxOf k) = β.f k:=by
    intro k hk _
    have hm:k ∈ keep:=by simpa using hk
    have hlt:=List.idxOf_lt_length_of_mem hm
    refine ⟨by rw [g.len]; exact hlt,?_⟩
    simp [β',List.getElem?_eq_getElem hlt]
  refine ⟨β',h.defers,by rw [g.nt]; exact h.size,fun t=>?_,?_,?_,h.base.trans g.base.symm⟩
  · rcases g.tm t with e | ⟨e,hn⟩
    · rw [e]; exact .any _
    · rw [e]; exact RelD.ren hσ him (h.tm t) hn
  · have hh:=h.heap
    refine ⟨fun i B' b h1 h2 h3=>?_,fun i B' h1 h2 h3=>?_,fun i j B B' b h1 h2 h3 h4 h5 h6=>?_,fun i B' b h1 h2 h3=>?_,hh.bound⟩
    · obtain ⟨k,B,k1,k2,k3,k4,k5,k6,k7⟩:=back h1
      rw [k7] at h3
      have hl:B.live = true:=by rw [<- k4]; exact h2
      obtain ⟨C,c1,c2,c3⟩:=hh.blk k B b k2 hl h3
      refine ⟨C,by rw [k3]; exact c1,by rw [k5,List.length_map]; exact c2,fun j d hd=>?_⟩
      rw [k5,List.getElem?_map] at hd
      cases hx:B.cells[j]? with
      | none=>simp [hx] at hd
      | some x =>
        simp [hx] at hd
        subst hd
        obtain ⟨o1,o2⟩:=c3 j x hx
        refine ⟨?_,RelD.ren hσ him o2 (DV.nums_go (k6 hl) j x hx)⟩
        cases x<;>first | rfl | exact o1
    · obtain ⟨k,B,k1,k2,k3,k4,k5,k6,k7⟩:=back h1
      rw [k7] at h3
      rw [k5,hh.none k B k2 (by rw [<- k4]; exact h2) h3]; rfl
    · obtain ⟨k,D,k1,k2,k3,k4,k5,k6,k7⟩:=back h1
      obtain ⟨k',D',l1,l2,l3,l4,l5,l6,l7⟩:=back h2
      rw [k7] at h5
      rw [l7] at h6
      have:=hh.inj k k' D D' b k2 l2 (by rw [<- k4]; exact h3) (by rw [<- l4]; exact h4) h5 h6
      subst this
      obtain ⟨hi,e1⟩:=List.getElem?_eq_some_iff.1 k1
      obtain ⟨hj,e2⟩:=List.getElem?_eq_some_iff.1 l1
      exact (List.getElem_inj g.nodup).1 (e1.trans e2.symm)
    · obtain ⟨k,B,k1,k2,k3,k4,k5,k6,k7⟩:=back h1
      rw [k7] at h3
      exact hh.avoid k B b k2 (by rw [<- k4]; exact h2) h3
  · have ev:=h.evo
    have hlow:∀ k,k < O.hp.length->β'.f k = β.f k:=fun k hk=>by simp [β',g.low k (by omega)]
    refine ⟨ev.os,ev.tape,ev.output,ev.size,?_,fun k hk=>(hlow k hk).trans (ev.beta k hk),ev.same,ev.shape,fun b hb hl=>ev.im b hb (hsub b hl),ev.X⟩
    rw [g.len]
    by_cases h0:O.hp.length = 0
    · omega
    · have:=g.low (O.hp.length - 1) (by omega)
      have:=(List.getElem?_eq_some_iff.1 this).1
      omega
def Qpu (S S':St):Prop:=Le S S'\/∃ keep,Gc keep S S'
theorem Sim.weak {O:Org} {β:Map} {S S':St} {a:Act} {w:World} (h:Sim O β S a w) (g:Qpu S S'):∃ β',Sim O β' S' a w:=by
  rcases g with g | ⟨keep,g⟩
  · exact ⟨β,h.le g⟩
  · exact h.gc g
theorem Qg {P:Program} {c:Code} {Q:Exit->St->Prop} {S:St} {ι:Type} (I:ι->St) (μ:ι->Nat) (i₀:ι) (h₀:Qpu S (I i₀))
    (round:∀ i,Qx P c (Qab Q fun S'=>∃ j,μ j < μ i/\Qpu S' (I j)) (I i)):VLoop P c Q S:=by
  intro O β a w hs b k cs
  have key:∀ n β i a w,μ i = n->Sim O β (I i) a w ->
      ∃ e a' w',Qkz O Q e a' w'/\Arrives P (lone (b.at a (.code c :: .inLoop c :: k)) cs w) b k cs e a' w':=by
    intro n
    induction n using Nat.strongRecOn with
    | _ n ih =>
      intro β i a w hn hs
      obtain ⟨e,a₁,w₁,hq,harr⟩:=Qu c _ _ (round i) O β a w hs b (.inLoop c :: k) cs
      obtain ⟨β₁,S₁,hs₁,hq⟩:=hq
      cases e with
      | normal =>
        obtain ⟨j,hlt,hle⟩:=hq
        obtain ⟨β₂,hs₂⟩:=hs₁.weak hle
        obtain ⟨e₂,a₂,w₂,hq₂,harr₂⟩:=ih (μ j) (hn ▸ hlt) β₂ j a₁ w₁ rfl hs₂
        exact ⟨e₂,a₂,w₂,hq₂,.of_steps (Steps.trans harr (.one step_inLoop)) harr₂⟩
      | exit id=>exact ⟨_,a₁,w₁,⟨β₁,S₁,hs₁,hq⟩,.pass (x:=.inLoop c) rfl (fun _ _=>.inl (by simp)) harr⟩
      | goto l=>exact ⟨_,a₁,w₁,⟨β₁,S₁,hs₁,hq⟩,.pass (x:=.inLoop c) rfl (fun _ _=>.inl (by simp)) harr⟩
      | ret=>exact ⟨_,a₁,w₁,⟨β₁,S₁,hs₁,hq⟩,.pass (x:=.inLoop c) rfl (fun _ _=>.inl (by simp)) harr⟩
      | panic ch=>exact ⟨_,a₁,w₁,⟨β₁,S₁,hs₁,hq⟩,.pass (x:=.inLoop c) rfl (fun _ _=>.inl (by simp)) harr⟩
      | outgrown=>exact ⟨_,a₁,w₁,⟨β₁,S₁,hs₁,hq⟩,.pass (x:=.inLoop c) rfl (fun _ _=>.inl (by simp)) harr⟩
  obtain ⟨β₀,hs₀⟩:=hs.weak h₀
  obtain ⟨e,a',w',hq,harr⟩:=key _ β₀ i₀ a w rfl hs₀
  exact ⟨e,a',w',hq,.of_steps (.one step_loop) harr⟩
mutual
theorem Qe9 (σ:Nat->Nat):∀ (d:DV),d.nums (fun _=>false) = true->d.ren σ = d
  | .pv _,_=>rfl
  | .ptr _ _,h=>by simp [DV.nums] at h
  | .own _ _ _ _,h=>by simp [DV.nums] at h
  | .ownc _ _ _ _ _,h=>by simp [DV.nums] at h
  | .ip _,_=>rfl
  | .any,_=>rfl
  | .agg cs,h=>by simp only [DV.ren]; rw [Qa8 σ cs h]
  | .tup cs,h=>by simp only [DV.ren]; rw [Qa8 σ cs h]
  | .fn f a b,h=>by
    simp only [DV.nums,Bool.and_eq_true] at h
    simp only [DV.ren]; rw [Qa8 σ a h.1,Qa8 σ b h.2]
  | .opt c d,h=>by simp only [DV.ren]; rw [Qe9 σ d h]
theorem Qa8 (σ:Nat->Nat):∀ (ds:List DV),DV.nums.go (fun _=>false) ds = true->DV.ren.go σ ds = ds
  | [],_=>rfl
  | d :: r,h=>by
    simp only [DV.nums.go,Bool.and_eq_true] at h
    simp only [DV.ren.go]; rw [Qe9 σ d h.1,Qa8 σ r h.2]
end
mutual
theorem Qkt (p:Nat->Bool):∀ (d:DV),d.nums (fun _=>false) = true->d.nums p = true
  | .pv _,_=>rfl
  | .ptr _ _,h=>by simp [DV.nums] at h
  | .own _ _ _ _,h=>by simp [DV.nums] at h
  | .ownc _ _ _ _ _,h=>by simp [DV.nums] at h
  | .ip _,_=>rfl
  | .any,_=>rfl
  | .agg cs,h=>QU p cs h
  | .tup cs,h=>QU p cs h
  | .fn f a b,h=>by
    simp only [DV.nums,Bool.and_eq_true] at h |-
    exact ⟨QU p a h.1,QU p b h.2⟩
  | .opt c d,h=>Qkt p d h
theorem QU (p:Nat->Bool):∀ (ds:List DV),DV.nums.go (fun _=>false) ds = true->DV.nums.go p ds = true
  | [],_=>rfl
  | d :: r,h=>by
    simp only [DV.nums.go,Bool.and_eq_true] at h |-
    exact ⟨Qkt p d h.1,QU p r h.2⟩
end
def QCO (keep:List Nat) (tm:List (Nat × DV)):List (Nat × DV)->Prop
  | []=>True
  | (t,d) :: r=>(d = (V.look tm t).ren (fun k=>keep.idxOf k)/\(V.look tm t).nums keep.contains = true)/\QCO keep tm r
theorem QjQ {keep:List Nat} {tm:List (Nat × DV)}:∀ {tm':List (Nat × DV)},QCO keep tm tm'->∀ t,V.look tm' t = .any\/(V.look tm' t = (V.look tm t).ren (fun k=>keep.idxOf k)/\(V.look tm t).nums keep.contains = true)
  | [],_,t=>.inl rfl
  | (a,d) :: r,h,t=>by
    simp only [V.look]
    split
    · rename_i e; subst e; exact .inr h.1
    · exact QjQ h.2 t
def QzY (keep:List Nat) (cs cs':List DV):Prop:=(DV.nums.go (fun _=>false) cs = true/\cs' = cs)\/(cs' = cs.map (DV.ren fun k=>keep.idxOf k)/\DV.nums.go keep.contains cs = true)
def QCT (keep:List Nat) (hp:Qa):List Nat->Qa->Prop
  | [],[]=>True
  | k :: r,B' :: r'=>(∃ B,hp[k]? = some B/\B'.ty = B.ty/\B'.live = B.live/\QzY keep B.cells B'.cells)/\QCT keep hp r r'
  | _,_=>False
theorem Qi8 {keep:List Nat} {hp:Qa}:∀ {l:List Nat} {hp':Qa},QCT keep hp l hp'->hp'.length = l.length/\∀ (i k:Nat),l[i]? = some k->∃ B B',hp[k]? = some B/\hp'[i]? = some B'/\B'.ty = B.ty/\B'.live = B.live/\B'.cells = B.cells.map (DV.ren fun k=>keep.idxOf k)/\(B.live = true->DV.nums.go keep.contains B.cells = true)
  | [],[],_=>⟨rfl,fun i k h=>by simp at h⟩
  | [],_ :: _,h=>h.elim
  | _ :: _,[],h=>h.elim
  | k0 :: r,B' :: r',h=>by
    obtain ⟨⟨B,h1,h2,h3,h4⟩,h5⟩:=h
    obtain ⟨g1,g2⟩:=Qi8 h5
    refine ⟨by simp [g1],fun i k hk=>?_⟩
    cases i with
    | zero =>
      simp at hk
      subst hk
      refine ⟨B,B',h1,rfl,h2,h3,?_⟩
      rcases h4 with ⟨n,e⟩ | ⟨e,n⟩
      · exact ⟨by rw [e,<- DV.ren_go,Qa8 _ _ n],fun _=>QU _ _ n⟩
      · exact ⟨e,fun _=>n⟩
    | succ i=>exact g2 i k (by simpa using hk)
theorem QBW {keep:List Nat} {S S':St} (h1:S'.nt = S.nt) (h2:S'.base = S.base) (h3:keep.take S.base = List.range S.base) (h4:keep.Nodup) (h5:QCT keep S.hp keep S'.hp) (h6:QCO keep S.tm S'.tm):Qpu S S':=
  .inr ⟨keep,h1,h2,fun k hk=>by
    have:(keep.take S.base)[k]? = some k:=by rw [h3]; simp [hk]
    rw [List.getElem?_take] at this
    simpa [hk] using this,h4,(Qi8 h5).1,(Qi8 h5).2,QjQ h6⟩
end Go.V
namespace Go.V
open Go.RowKit Go.WideShapes Go.ChangeShapes
def β0:Map:=⟨fun _=>none,fun _=>False⟩
theorem QvI (w:World):HeapRel w β0 []:=⟨by simp,by simp,by simp,by simp,fun _ h=>h.elim⟩
theorem Qvw {P:Program} {g:FuncId} {ds:List DV} {vs:Array Value} {w:World} (hb:∃ fn,P.funcs[g]? = some fn/\fn.body.isNone = false) (c:VCalls P g ds [] (Ret (.bool true))) (h:RelL w β0 [] ds vs) :
    Calls P g vs w fun e w'=>e = .returned (.bool true)/\Below w.heap.size w w':=by
  rcases c.run w β0 vs (QvI w) h with ⟨_,_,_,_,h4⟩ | ⟨fn,_,_,h1,h2,_⟩
  rotate_left
  · obtain ⟨fn',k1,k2⟩:=hb
    rw [h1] at k1
    cases k1
    rw [h2] at k2
    cases k2
  refine h4.mono fun e w' ⟨v,r,h',β',he,ev,_,hr,_,_,hd⟩=>?_
  subst hd
  obtain rfl:=Qi hr
  exact ⟨he,ev.os,ev.tape,ev.output,ev.size,fun k hk=>ev.same k hk (by rintro ⟨_,_,h,_⟩; simp at h)⟩
section
variable {H:Type} {enc:TypeId × Value->H} {P:Program}
theorem Qd1 (hl:laidOutB P = true) {W W':World} (hb:Below W.heap.size W W') {sp:Nat->Bool}:∀ {ts:List TypeId} {vs:List Value} {ds:List (DataW H)} {ps:List MemPlace},
    (ts.all fun t=>P.readableRec t && decide (t < P.types.size)) = true->DataW.TrodAll enc P W 0 (fun _=>true) true ts vs ds ps->(∀ x ∈ ps,x.block < W.heap.size)->(∀ x ∈ ps,sp x.block = true)->DataW.TrodAll enc P W' 0 sp true ts vs ds ps
  | [],_,_,_,_,h,_,_=>by
    obtain ⟨rfl,rfl,rfl⟩:=trodAll_nil h
    exact rfl
  | t :: ts,_,_,_,hr,h,hlt,hs=>by
    obtain ⟨v,vs1,d,ds1,a,b,rfl,rfl,rfl,h1,h2⟩:=trodAll_cons h
    simp only [List.all_cons,Bool.and_eq_true,decide_eq_true_eq] at hr
    exact ⟨a,b,WideElems.Trod_stays hl hr.1.1 hr.1.2 h1 (fun x hx=>hb.same (hlt x (List.mem_append_left _ hx))) (fun x hx=>hs x (List.mem_append_left _ hx)),
      Qd1 hl hb (by simpa using hr.2) h2 (fun x hx=>hlt x (List.mem_append_right _ hx)) (fun x hx=>hs x (List.mem_append_right _ hx)),rfl⟩
theorem Qvx {f:Func} {s:ChangeSpec} {apart fresh handsOn again:Bool} {W W':World} {args:Array Value} {ds gs:List (DataW H)} {before:List MemPlace} {Tb:TypeId}
    (hW:DataW.Whole enc P f.params.toList s.vars apart W args.toList ds gs before) (hl:laidOutB P = true)
    (hts:(f.params.toList.all fun t=>P.readableRec t && decide (t < P.types.size)) = true)
    (hvs:s.vars = []) (hres:f.resultTypes = #[Tb]) (hTb:P.underlying Tb = some .bool)
    (hr:(s.fn H ds).results = [.lit (.bool true)]) (ha:(s.fn H ds).args = ds) (hv:(s.fn H ds).vars = [])
    (hb:Below W.heap.size W W'):s.post enc P f apart fresh handsOn again W args (.bool true) W':=by
  have hlt:∀ p ∈ before,p.block < W.heap.size:=fun p hp=>hW.lt p hp
  have hold:∀ p ∈ before,(fun b=>decide (b < W.heap.size)) p.block = true:=fun p hp=>by simpa using hlt p hp
  have hW2:=hW
  obtain ⟨p,q,hA,hV,hpq,hz,hn⟩:=hW2
  rw [hvs] at hV
  obtain ⟨rfl,rfl⟩:=trodVars_none hV
  have hpb:before = p:=by simpa using hpq
  subst hpb
  have hargs:∀ sp:Nat->Bool,(∀ x ∈ before,sp x.block = true)->DataW.TrodAll enc P W' 0 sp true f.params.toList args.toList (s.fn H (ds ++ [])).args before:=fun sp hs=>by
    rw [List.append_nil,ha]
    exact Qd1 hl hb hts hA hlt hs
  have hres':∀ (b:Nat) (sp:Nat->Bool) (hd:Bool),DataW.TrodAll enc P W' b sp hd f.resultTypes.toList ((Value.bool true).resultList f.resultTypes.size) (s.fn H (ds ++ [])).results []:=fun b sp hd=>by
    rw [List.append_nil,hr,hres]
    exact trodAll_mk1 (shut_bool hTb true)
  have hvars:∀ sp:Nat->Bool,DataW.TrodVars enc P W' sp s.vars (s.fn H (ds ++ [])).vars []:=fun sp=>by
    rw [List.append_nil,hv,hvs]; exact rfl
  refine ⟨ds,[],before,[],before,[],hW,hres' _ _ _,hargs _ hold,hvars _,World.keptBut_mono (fun p hp=>⟨hp,?_⟩) (hb.frame (· ∈ before)),fun _=>?_⟩
  · simpa using hp
  · refine ⟨ok_one hres rfl (by simp [Value.okWide,hTb,Cell.okWide,Cell.ok]),_,_,([] ++ before) ++ [],⟨[] ++ before,[],trodAll_append (hargs _ (fun _ _=>rfl)) (hres' _ _ _),hvars _,rfl,?_,?_⟩,?_⟩
    · intro b off hp
      have hin:MemPlace.cell b off ∈ before:=by simpa using hp
      rw [hb.frozen (hlt _ hin)]
      exact hz b off hin
    · intro ha
      simpa using hn ha
    · intro p hp _
      simpa using hp
theorem Qms {r:Reach} {b0:Nat} {W:World} {t:TypeId} {k:IntKind} {v:Value} {d:DataW H} {ps:List MemPlace} (ht:P.underlying t = some (.int k)) (hval:Value.okWide P W r b0 t v) (h:DataW.Trod enc P W 0 (fun _=>true) true t v d ps) :
    ∃ n:Int,RelD W β0 [] (.int k n) v/\(Lit.int k n).wf = true:=by
  obtain ⟨n,rfl,_,_,hw⟩:=open_int ht hval h
  exact ⟨n,.pv _ _ (.lit _ rfl),hw⟩
def su8 (l:List UInt8):List (List PV):=l.map fun b=>[.lit (.int .u8 b.toNat)]
theorem QBT {W:World} {a:Addr} {v:Value} (h:W.cell? a = some v):a.block < W.heap.size:=by
  by_cases hb:a.block < W.heap.size
  · exact hb
  · have:W.heap[a.block]? = none:=by simp; omega
    simp [World.cell?,this] at h
theorem Qz7 {r:Reach} {b0:Nat} {W:World} {t e:TypeId} {v:Value} {d:DataW H} {ps:List MemPlace} (ht:P.underlying t = some (.slice e)) (he:P.underlying e = some (.int .u8)) (hc:P.cellsOf e = 1)
    (hval:Value.okWide P W r b0 t v) (h:DataW.Trod enc P W 0 (fun _=>true) true t v d ps) :
    ∃ l:List UInt8,RelD W β0 [] (.pv (.sl (su8 l))) v/\l.length<=maxLen:=by
  obtain ⟨a0,len,cap,rfl⟩:=okWide_slice ht hval
  obtain ⟨fuel,hf⟩:=h
  rcases open_ints ht he hc hf with ⟨h1,_⟩ | ⟨a,len',cap',zs,h1,_,hl,hm,hz,_,hcell,hwf⟩
  · simp [Value.cells] at h1
    obtain ⟨rfl,rfl,rfl⟩:=h1
    exact ⟨[],.pv _ _ (.sl [] none 0 1 (fun _ _=>undef) (Nat.le_refl _) (Nat.zero_le _) (by simp) (by simp) (by simp) (by simp)),by simp⟩
  · simp [Value.cells] at h1
    obtain ⟨rfl,rfl,rfl⟩:=h1
    simp only [if_true] at hz
    have hsp:a.spot = none:=by
      simp [Value.okWide,ht,Cell.okWide,Cell.ok,World.has] at hval
      exact hval.2.2.2.1
    have hwf':∀ i,i < zs.length->0<=zs.getD i 0/\zs.getD i 0<=255:=fun i hi=>by
      have:=hwf _ (List.getElem_mem hi)
      have this:0<=zs[i]/\zs[i]<=255:=by
        simp only [Lit.wf,Bool.and_eq_true,decide_eq_true_eq] at this
        exact this
      rw [List.getD_eq_getElem?_getD,List.getElem?_eq_getElem hi,Option.getD_some]
      exact this
    let l:List UInt8:=(zs.take len).map fun n=>UInt8.ofNat n.toNat
    have hll:l.length = len:=by simp [l,hz]; omega
    have hgl:∀ i,i < len->(su8 l)[i]? = some [.lit (.int .u8 (zs.getD i 0))]:=fun i hi=>by
      have hi':i < zs.length:=by omega
      have:=hwf' i hi'
      rw [List.getD_eq_getElem?_getD,List.getElem?_eq_getElem hi',Option.getD_some] at this |-
      simp only [su8,l,List.map_map,List.getElem?_map,List.getElem?_take,hi,if_true,List.getElem?_eq_getElem hi',Option.map_some,Function.comp]
      have e:((UInt8.ofNat (zs[i].toNat)).toNat:Int) = zs[i]:=by
        rw [UInt8.toNat_ofNat']; omega
      rw [e]
    have hsl:(su8 l).length = len:=by simp [su8,hll]
    have hat:∀ i,i < len->∃ ad,some a = some ad/\ad.block < W.heap.size/\¬ img β0 [] ad.block/\W.cell? (at_ ad (i * 1 + 0)) = some (.int .u8 (zs.getD i 0)):=fun i hi=>by
      have h:=hcell i (by omega)
      have hs:=World.cell?_spot h
      refine ⟨a,rfl,?_,?_,?_⟩
      · have:=QBT h
        obtain ⟨b,off,sp⟩:=a
        simp only at hsp
        subst hsp
        rw [add_plain] at this
        exact this
      · rintro (h | ⟨_,_,h,_⟩)
        · exact h
        · simp at h
      · have e:at_ a (i * 1 + 0) = a.add i:=by
          obtain ⟨b,off,sp⟩:=a
          simp only at hsp
          subst hsp
          rw [add_plain]
          simp [at_]
        rw [e]; exact h
    refine ⟨l,.pv _ _ ?_,by omega⟩
    have key:RelP W (img β0 []) (.sl (su8 l)) (.slice (some a) (su8 l).length cap):=by
      refine .sl (su8 l) (some a) cap 1 (fun i _=>.int .u8 (zs.getD i 0)) (by omega) hm (fun i c hi=>?_) (fun ad had _=>?_) (fun i j c d hi hj=>?_) (fun i j c d hi hj=>?_)
      · have hlt:i < len:=by rw [<- hsl]; exact (List.getElem?_eq_some_iff.1 hi).1
        rw [hgl i hlt] at hi; cases hi; rfl
      · cases had
        exact hsp
      · have hlt:i < len:=by rw [<- hsl]; exact (List.getElem?_eq_some_iff.1 hi).1
        rw [hgl i hlt] at hi; cases hi
        cases j with
        | zero=>exact hat i hlt
        | succ j=>simp at hj
      · have hlt:i < len:=by rw [<- hsl]; exact (List.getElem?_eq_some_iff.1 hi).1
        rw [hgl i hlt] at hi; cases hi
        cases j with
        | zero=>simp at hj; subst hj; exact .lit _ rfl
        | succ j=>simp at hj
    rw [hsl] at key
    exact key
end
structure RelOf (W:World) where
  d:DV
  v:Value
  h:RelD W β0 [] d v
theorem Qre {W:World} (l:List (RelOf W)):RelL W β0 [] (l.map (·.d)) (l.map (·.v)).toArray:=by
  refine ⟨by simp,fun i d hi=>?_⟩
  rw [List.getElem?_map] at hi
  cases h:l[i]? with
  | none=>simp [h] at hi
  | some r=>simp [h] at hi; subst hi; simpa [Array.getD_eq_getD_getElem?,h] using r.h
theorem QAG {n:Int} (h:(Lit.int .i64 n).wf = true) : -9223372036854775808<=n/\n<=9223372036854775807:=by
  simp only [Lit.wf,Bool.and_eq_true,decide_eq_true_eq] at h; exact h
end Go.V
namespace Go.V
def CellV (P:Program) (u:TypeId) (d:DV):Prop:=
  (∃ k n,P.underlying u = some (.int k)/\d = .int k n/\(Lit.int k n).wf = true)\/(P.underlying u = some .bool/\∃ b,d = .bool b)\/(P.underlying u = some .string/\∃ s,d = .pv (.str s))
theorem CellV.int {P:Program} {u:TypeId} {d:DV} {k:IntKind} (h:CellV P u d) (hu:P.underlying u = some (.int k)):∃ n,d = .int k n/\(Lit.int k n).wf = true:=by
  rcases h with ⟨k',n,h1,h2,h3⟩ | ⟨h1,_⟩ | ⟨h1,_⟩
  · rw [hu] at h1; cases h1; exact ⟨n,h2,h3⟩
  · rw [hu] at h1; cases h1
  · rw [hu] at h1; cases h1
theorem CellV.bool {P:Program} {u:TypeId} {d:DV} (h:CellV P u d) (hu:P.underlying u = some .bool):∃ b,d = .bool b:=by
  rcases h with ⟨k',n,h1,h2,h3⟩ | ⟨h1,h2⟩ | ⟨h1,_⟩
  · rw [hu] at h1; cases h1
  · exact h2
  · rw [hu] at h1; cases h1
theorem CellV.str {P:Program} {u:TypeId} {d:DV} (h:CellV P u d) (hu:P.underlying u = some .string):∃ s,d = .pv (.str s):=by
  rcases h with ⟨k',n,h1,h2,h3⟩ | ⟨h1,_⟩ | ⟨h1,h2⟩
  · rw [hu] at h1; cases h1
  · rw [hu] at h1; cases h1
  · exact h2
end Go.V
namespace Go.V
open Go.ChangeShapes Go.WideShapes Go.Deep
inductive PS | int (k:IntKind) | bool | str
inductive CK | pl (s:PS) | rows (r:List PS)
def Qmk {α:Type} (P:Program) (f:TypeId->Option (List α)):List Field->Nat->Option (List α)
  | [],_=>some []
  | g :: r,off=>match f g.type with
    | some x=>if g.offset = off/\P.cellsOf g.type = x.length then (Qmk P f r (off + x.length)).map (x ++ ·) else none
    | none=>none
def QwQ (P:Program):Nat->TypeId->Option (List PS)
  | 0,_=>none
  | n + 1,t=>match P.underlying t with
    | some (.int k)=>some [.int k]
    | some .bool=>some [.bool]
    | some .string=>some [.str]
    | some (.struct fs)=>match Qmk P (QwQ P n) fs.toList 0 with
      | some x=>if P.cellsOf t = x.length then some x else none
      | none=>none
    | _=>none
def Qo8 (P:Program):Nat->TypeId->Option (List CK)
  | 0,_=>none
  | n + 1,t=>match P.underlying t with
    | some (.int k)=>some [.pl (.int k)]
    | some .bool=>some [.pl .bool]
    | some .string=>some [.pl .str]
    | some (.slice e)=>match QwQ P n e with
      | some r=>if P.cellsOf e = r.length/\0 < r.length then some [.rows r] else none
      | none=>none
    | some (.struct fs)=>match Qmk P (Qo8 P n) fs.toList 0 with
      | some x=>if P.cellsOf t = x.length then some x else none
      | none=>none
    | _=>none
section
variable {H:Type} {enc:TypeId × Value->H} {P:Program} {W:World} {spare:Nat->Bool} {held:Bool}
end
end Go.V
namespace Go.V
def Qdt (σ:Nat->Nat) (B:Blk):Blk:={ B with cells:=B.cells.map (DV.ren σ) }
def QrZ (hp:Qa) (sel:List Nat):Option Qa:=Qh (sel.map fun k=>(hp[k]?).map (Qdt fun j=>sel.idxOf j))
def Qnk (hp:Qa) (sel:List Nat):Bool:=sel.all fun k=>match hp[k]? with | some B=>!B.live || DV.nums.go sel.contains B.cells | none=>false
def back (sel:List Nat) (n:Nat) (i:Nat):Nat:=if i < sel.length then sel.getD i 0 else n + (i - sel.length)
def QT (hp:Qa) (sel:List Nat) (h':Qa):Qa:=
  ((List.range hp.length).map fun k=>if sel.contains k then Qdt (back sel hp.length) (h'.getD (sel.idxOf k) default) else hp.getD k default) ++ (h'.drop sel.length).map (Qdt (back sel hp.length))
mutual
theorem Qem:∀ (d:DV),d.nums (fun _=>true) = true
  | .pv _=>rfl
  | .ptr _ _=>rfl
  | .own _ _ _ _=>rfl
  | .ownc _ _ _ _ _=>rfl
  | .ip _=>rfl
  | .any=>rfl
  | .agg cs=>Qbv cs
  | .tup cs=>Qbv cs
  | .fn f a b=>by simp only [DV.nums]; rw [Qbv a,Qbv b]; rfl
  | .opt c d=>Qem d
theorem Qbv:∀ (ds:List DV),DV.nums.go (fun _=>true) ds = true
  | []=>rfl
  | d :: r=>by simp only [DV.nums.go]; rw [Qem d,Qbv r]; rfl
end
theorem Qrb {σ:Nat->Nat} {d:DV} (h:d.one = true):(d.ren σ).one = true:=by
  cases d<;>first | rfl | exact h
theorem Qii (hp:Qa) (sel:List Nat) (h':Qa):(QT hp sel h').length = hp.length + (h'.length - sel.length):=by simp [QT]
theorem Qpd {hp:Qa} {sel:List Nat} {h':Qa} {k:Nat} {B:Blk} (h:(QT hp sel h')[k]? = some B) :
    (k < hp.length/\¬ k ∈ sel/\hp[k]? = some B)\/(k < hp.length/\k ∈ sel/\B = Qdt (back sel hp.length) (h'.getD (sel.idxOf k) default)) \/
    (hp.length<=k/\∃ D,h'[sel.length + (k - hp.length)]? = some D/\B = Qdt (back sel hp.length) D):=by
  unfold QT at h
  by_cases hk:k < hp.length
  · rw [List.getElem?_append_left (by simpa using hk),List.getElem?_map,List.getElem?_range hk] at h
    simp only [Option.map_some,Option.some.injEq] at h
    by_cases hm:k ∈ sel
    · rw [if_pos (by simpa using hm)] at h
      exact .inr (.inl ⟨hk,hm,h.symm⟩)
    · rw [if_neg (by simpa using hm)] at h
      refine .inl ⟨hk,hm,?_⟩
      rw [<- h,List.getD_eq_getElem?_getD,List.getElem?_eq_getElem hk]; rfl
  · rw [List.getElem?_append_right (by simpa using Nat.le_of_not_lt hk),List.getElem?_map,List.getElem?_drop] at h
    simp only [List.length_map,List.length_range] at h
    obtain ⟨D,h1,h2⟩:=Qy h
    exact .inr (.inr ⟨Nat.le_of_not_lt hk,D,h1,h2.symm⟩)
theorem VCalls.frame {P:Program} {g:FuncId} {args args0:List DV} {hp h0:Qa} {R:DV->Qa->Prop} (sel:List Nat) (hnd:sel.Nodup) (hl:QrZ hp sel = some h0) (hok:Qnk hp sel = true)
    (c:VCalls P g args0 h0 R) (ha0:args0 = args.map (DV.ren fun j=>sel.idxOf j)) (ha:DV.nums.go sel.contains args = true) :
    VCalls P g args hp fun r h2=>∃ r0 h',R r0 h'/\sel.length<=h'.length/\r = r0.ren (back sel hp.length)/\h2 = QT hp sel h':=by
  refine ⟨fun w β vs hh hr=>?_⟩
  obtain ⟨l1,l2⟩:=QF hl
  have hlen:h0.length = sel.length:=by rw [l1,List.length_map]
  have hget:∀ {i:Nat} {B0:Blk},h0[i]? = some B0->∃ k B,sel[i]? = some k/\hp[k]? = some B/\B0 = Qdt (fun j=>sel.idxOf j) B/\(B.live = true->DV.nums.go sel.contains B.cells = true):=by
    intro i B0 hi
    have h1:=l2 i B0 hi
    rw [List.getElem?_map] at h1
    obtain ⟨k,h2,h3⟩:=Qy h1
    obtain ⟨B,h4,h5⟩:=Qy h3
    refine ⟨k,B,h2,h4,h5.symm,fun hlv=>?_⟩
    have:=List.all_eq_true.1 hok k (List.mem_of_getElem? h2)
    rw [h4] at this
    simpa [hlv] using this
  have hsel:∀ k,k ∈ sel->∃ i,sel[i]? = some k/\i = sel.idxOf k/\i < sel.length:=fun k hk=>by
    have hlt:=List.idxOf_lt_length_of_mem hk
    exact ⟨sel.idxOf k,by rw [List.getElem?_eq_getElem hlt]; simp,rfl,hlt⟩
  have hidx:∀ {i k:Nat},sel[i]? = some k->sel.idxOf k = i:=fun {i k} hi=>by
    obtain ⟨hlt,e⟩:=List.getElem?_eq_some_iff.1 hi
    rw [<- e]; exact hnd.idxOf_getElem i hlt
  let βc:Map:=⟨fun i=>(sel[i]?).bind β.f,fun b=>β.X b\/∃ k B,hp[k]? = some B/\B.live = true/\β.f k = some b/\¬ k ∈ sel⟩
  have livec:∀ b,live βc h0 b->live β hp b:=by
    rintro b ⟨i,B0,h1,h2,h3⟩
    obtain ⟨k,B,k1,k2,k3,_⟩:=hget h1
    refine ⟨k,B,k2,by rw [k3] at h2; exact h2,?_⟩
    simpa [βc,k1] using h3
  have himc:∀ b,img βc h0 b->img β hp b:=by
    rintro b ((h | ⟨k,B,h1,h2,h3,_⟩) | h)
    · exact .inl h
    · exact .inr ⟨k,B,h1,h2,h3⟩
    · exact .inr (livec b h)
  have hσ:∀ k,sel.contains k = true->k < hp.length->sel.idxOf k < h0.length/\βc.f (sel.idxOf k) = β.f k:=fun k hk _=>by
    obtain ⟨i,h1,h2,h3⟩:=hsel k (by simpa using hk)
    subst h2
    exact ⟨by rw [hlen]; exact h3,by simp [βc,h1]⟩
  have hhc:HeapRel w βc h0:=by
    refine ⟨fun i B0 b h1 h2 h3=>?_,fun i B0 h1 h2 h3=>?_,fun i j B0 B1 b h1 h2 h3 h4 h5 h6=>?_,fun i B0 b h1 h2 h3=>?_,fun b hb=>?_⟩
    · obtain ⟨k,B,k1,k2,k3,k4⟩:=hget h1
      subst k3
      obtain ⟨C,c1,c2,c3⟩:=hh.blk k B b k2 h2 (by simpa [βc,k1] using h3)
      refine ⟨C,c1,by simpa [Qdt] using c2,fun j d hd=>?_⟩
      simp only [Qdt,List.getElem?_map] at hd
      obtain ⟨x,x1,x2⟩:=Qy hd
      subst x2
      obtain ⟨o1,o2⟩:=c3 j x x1
      exact ⟨Qrb o1,RelD.ren hσ himc o2 (DV.nums_go (k4 h2) j x x1)⟩
    · obtain ⟨k,B,k1,k2,k3,k4⟩:=hget h1
      subst k3
      have:=hh.none k B k2 h2 (by simpa [βc,k1] using h3)
      simp [Qdt,this]
    · obtain ⟨k,B,k1,k2,k3,k4⟩:=hget h1
      obtain ⟨k',B',k1',k2',k3',k4'⟩:=hget h2
      subst k3 k3'
      have:=hh.inj k k' B B' b k2 k2' h3 h4 (by simpa [βc,k1] using h5) (by simpa [βc,k1'] using h6)
      subst this
      rw [<- hidx k1,<- hidx k1']
    · obtain ⟨k,B,k1,k2,k3,k4⟩:=hget h1
      subst k3
      have hb:β.f k = some b:=by simpa [βc,k1] using h3
      rintro (hX | ⟨k',B',h1',h2',h3',h4'⟩)
      · exact hh.avoid k B b k2 h2 hb hX
      · have:=hh.inj k' k B' B b h1' k2 h2' h2 h3' hb
        subst this
        exact h4' (List.mem_of_getElem? k1)
    · rcases hb with hb | ⟨k,B,h1,h2,h3,_⟩
      · exact hh.bound b hb
      · exact QbK hh ⟨k,B,h1,h2,h3⟩
  have hargs:RelL w βc h0 args0 vs:=by
    refine ⟨by rw [ha0,List.length_map]; exact hr.1,fun i d hd=>?_⟩
    rw [ha0,List.getElem?_map] at hd
    obtain ⟨x,x1,x2⟩:=Qy hd
    subst x2
    exact RelD.ren hσ himc (hr.2 i x x1) (DV.nums_go ha i x x1)
  refine (c.run w βc vs hhc hargs).mono ?_
  rintro e w' ⟨v,r,h',β',rfl,ev,hh',hrel,hR⟩
  have hm:sel.length<=h'.length:=by rw [<- hlen]; exact ev.len
  let β2:Map:=⟨fun k=>if k < hp.length then β.f k else β'.f (sel.length + (k - hp.length)),β.X⟩
  have hf':∀ {i k:Nat},sel[i]? = some k->β'.f i = β.f k:=fun {i k} hi=>by
    have hlt:i < sel.length:=(List.getElem?_eq_some_iff.1 hi).1
    rw [ev.beta i (by rw [hlen]; exact hlt)]
    simp [βc,hi]
  have hk':∀ {k:Nat},k ∈ sel->k < hp.length:=fun {k} hk=>by
    have:=List.all_eq_true.1 hok k hk
    cases h:hp[k]? with
    | none=>rw [h] at this; simp at this
    | some B=>exact (List.getElem?_eq_some_iff.1 h).1
  -- what block k of the caller's is,QT the call
  have cases3:∀ {k:Nat} {B:Blk},(QT hp sel h')[k]? = some B->(¬ k ∈ sel/\hp[k]? = some B/\β2.f k = β.f k)\/(∃ i D,h'[i]? = some D/\B = Qdt (back sel hp.length) D/\β2.f k = β'.f i/\back sel hp.length i = k):=by
    intro k B hB
    rcases Qpd hB with ⟨h1,h2,h3⟩ | ⟨h1,h2,h3⟩ | ⟨h1,D,h2,h3⟩
    · exact .inl ⟨h2,h3,by simp [β2,h1]⟩
    · obtain ⟨i,i1,i2,i3⟩:=hsel k h2
      have hlt:i < h'.length:=Nat.lt_of_lt_of_le i3 hm
      refine .inr ⟨i,h'[i],List.getElem?_eq_getElem hlt,?_,?_,?_⟩
      · rw [h3,<- i2,List.getD_eq_getElem?_getD,List.getElem?_eq_getElem hlt]; rfl
      · simp only [β2,h1,if_true]; exact (hf' i1).symm
      · simp only [back,i3,if_true]
        rw [List.getD_eq_getElem?_getD,i1]; rfl
    · refine .inr ⟨sel.length + (k - hp.length),D,h2,h3,?_,?_⟩
      · simp only [β2]; rw [if_neg (by omega)]
      · simp only [back]; rw [if_neg (by omega)]; omega
  have livelift:∀ b,live β2 (QT hp sel h') b->(∃ k B,hp[k]? = some B/\B.live = true/\β.f k = some b/\¬ k ∈ sel)\/live β' h' b:=by
    rintro b ⟨k,B,h1,h2,h3⟩
    rcases cases3 h1 with ⟨a1,a2,a3⟩ | ⟨i,D,a1,a2,a3,_⟩
    · exact .inl ⟨k,B,a2,h2,by rw [<- a3]; exact h3,a1⟩
    · exact .inr ⟨i,D,a1,by rw [a2] at h2; exact h2,by rw [<- a3]; exact h3⟩
  have himb:∀ b,img β2 (QT hp sel h') b->img β' h' b:=by
    rintro b (h | h)
    · exact .inl (by rw [ev.X]; exact .inl h)
    · rcases livelift b h with h | h
      · exact .inl (by rw [ev.X]; exact .inr h)
      · exact .inr h
  have hτ:∀ k,(fun _=>true:Nat->Bool) k = true->k < h'.length->back sel hp.length k < (QT hp sel h').length/\β2.f (back sel hp.length k) = β'.f k:=fun i _ hi=>by
    rw [Qii]
    by_cases hlt:i < sel.length
    · have hs:sel[i]? = some sel[i]:=List.getElem?_eq_getElem hlt
      have e:back sel hp.length i = sel[i]:=by simp only [back,hlt,if_true]; rw [List.getD_eq_getElem?_getD,hs]; rfl
      have hk:=hk' (List.mem_of_getElem? hs)
      rw [e]
      exact ⟨by omega,by simp only [β2,hk,if_true]; exact (hf' hs).symm⟩
    · have e:back sel hp.length i = hp.length + (i - sel.length):=by simp only [back]; rw [if_neg hlt]
      rw [e]
      refine ⟨by omega,?_⟩
      simp only [β2]
      rw [if_neg (by omega),show sel.length + (hp.length + (i - sel.length) - hp.length) = i by omega]
  have evo:Evo w β hp w' β2 (QT hp sel h'):=by
    refine ⟨ev.os,ev.tape,ev.output,ev.size,by rw [Qii]; omega,fun k hk=>by simp [β2,hk],fun b hb hn=>ev.same b hb (fun h=>hn (livec b h)),ev.shape,fun b hb h=>?_,rfl⟩
    rcases livelift b h with ⟨k,B,h1,h2,h3,_⟩ | h
    · exact ⟨k,B,h1,h2,h3⟩
    · exact livec b (ev.im b hb h)
  refine ⟨v,r.ren (back sel hp.length),QT hp sel h',β2,rfl,evo,?_,RelD.ren hτ himb hrel (Qem r),r,h',hR,hm,rfl,rfl⟩
  have outer:∀ {k:Nat} {B:Blk} {b:Nat},hp[k]? = some B->B.live = true->β.f k = some b->¬ k ∈ sel->β'.X b:=fun {k B b} h1 h2 h3 h4=>by
    rw [ev.X]; exact .inr ⟨k,B,h1,h2,h3,h4⟩
  refine ⟨fun k B b h1 h2 h3=>?_,fun k B h1 h2 h3=>?_,fun j k B B' b h1 h2 h3 h4 h5 h6=>?_,fun k B b h1 h2 h3=>?_,fun b hb=>Nat.lt_of_lt_of_le (hh.bound b hb) ev.size⟩
  · rcases cases3 h1 with ⟨a1,a2,a3⟩ | ⟨i,D,a1,a2,a3,_⟩
    · rw [a3] at h3
      obtain ⟨C,g1,g2,g3⟩:=hh.blk k B b a2 h2 h3
      have hb:=(Array.getElem?_eq_some_iff.1 g1).1
      have hsame:w'.heap[b]? = w.heap[b]?:=ev.same b hb fun hlv=>by
        obtain ⟨i,B0,e1,e2,e3⟩:=hlv
        exact hhc.avoid i B0 b e1 e2 e3 (.inr ⟨k,B,a2,h2,h3,a1⟩)
      exact ⟨C,by rw [hsame]; exact g1,g2,fun i d hd=>⟨(g3 i d hd).1,(g3 i d hd).2.mono evo⟩⟩
    · subst a2
      obtain ⟨C,g1,g2,g3⟩:=hh'.blk i D b a1 h2 (by rw [<- a3]; exact h3)
      refine ⟨C,g1,by simpa [Qdt] using g2,fun j d hd=>?_⟩
      simp only [Qdt,List.getElem?_map] at hd
      obtain ⟨x,x1,x2⟩:=Qy hd
      subst x2
      exact ⟨Qrb (g3 j x x1).1,RelD.ren hτ himb (g3 j x x1).2 (Qem x)⟩
  · rcases cases3 h1 with ⟨a1,a2,a3⟩ | ⟨i,D,a1,a2,a3,_⟩
    · exact hh.none k B a2 h2 (by rw [<- a3]; exact h3)
    · subst a2
      have:=hh'.none i D a1 h2 (by rw [<- a3]; exact h3)
      simp [Qdt,this]
  · rcases cases3 h1 with ⟨a1,a2,a3⟩ | ⟨i,D,a1,a2,a3,a4⟩<;>rcases cases3 h2 with ⟨b1,b2,b3⟩ | ⟨i',D',b1,b2,b3,b4⟩
    · exact hh.inj j k B B' b a2 b2 h3 h4 (by rw [<- a3]; exact h5) (by rw [<- b3]; exact h6)
    · exact absurd (outer a2 h3 (by rw [<- a3]; exact h5) a1) (hh'.avoid i' D' b b1 (by rw [b2] at h4; exact h4) (by rw [<- b3]; exact h6))
    · exact absurd (outer b2 h4 (by rw [<- b3]; exact h6) b1) (hh'.avoid i D b a1 (by rw [a2] at h3; exact h3) (by rw [<- a3]; exact h5))
    · have:=hh'.inj i i' D D' b a1 b1 (by rw [a2] at h3; exact h3) (by rw [b2] at h4; exact h4) (by rw [<- a3]; exact h5) (by rw [<- b3]; exact h6)
      subst this
      rw [<- a4,<- b4]
  · rcases cases3 h1 with ⟨a1,a2,a3⟩ | ⟨i,D,a1,a2,a3,_⟩
    · exact hh.avoid k B b a2 h2 (by rw [<- a3]; exact h3)
    · intro hX
      exact hh'.avoid i D b a1 (by rw [a2] at h2; exact h2) (by rw [<- a3]; exact h3) (by rw [ev.X]; exact .inl hX)
theorem Qpc {hp:Qa} {k:Nat} (hk:k < hp.length) (B:Blk) (r:Qa):QT hp [k] (B :: r) = hp.set k (Qdt (back [k] hp.length) B) ++ r.map (Qdt (back [k] hp.length)):=by
  unfold QT
  congr 1
  apply List.ext_getElem?
  intro j
  rw [List.getElem?_map,List.getElem?_set]
  by_cases hj:j < hp.length
  · rw [List.getElem?_range hj,Option.map_some]
    by_cases e:k = j
    · subst e; simp [hj]
    · rw [if_neg e,if_neg (by simpa using fun h=>e h.symm),List.getD_eq_getElem?_getD,List.getElem?_eq_getElem hj]; rfl
  · rw [List.getElem?_eq_none (by simpa using Nat.le_of_not_lt hj)]
    rw [if_neg (by omega),List.getElem?_eq_none (by omega)]; rfl
end Go.V
namespace Go.V
theorem Qbl {P:Program} {ev ev':Operand->DV} {hp:Qa} {o:Op} (hev:∀ x ∈ o.operands.toList,ev' x = ev x):vop P ev' hp o = vop P ev hp o:=by
  by_cases hk:Q6 o = true
  · exact Qf4 hk hev
  · cases o with
    | alloc T=>rfl
    | box T x=>simp [Op.operands] at hev; simp [vop,hev]
    | makeSlice T l c=>simp [Op.operands] at hev; simp [vop,hev]
    | buildSlice T n ps =>
      have mp:parts ev' ps = parts ev ps:=by
        unfold parts
        exact List.map_congr_left fun p hp=>by rw [hev p.2 (by simp [Op.operands]; exact ⟨p.1,by simpa using hp⟩)]
      simp [vop,mp]
    | call c =>
      have h1:c.args.toList.map ev' = c.args.toList.map ev:=List.map_congr_left fun x hx=>hev x (by simp [Op.operands,Call.operands]; right; simpa using hx)
      simp only [vop,h1]
    | _=>first
      | (exact absurd rfl hk)
      | rfl
def St.only (S:St) (ts:List Nat):St:=⟨S.nt,S.hp.length,ts.map fun t=>(t,look S.tm t),S.hp⟩
theorem Qi5 {f:Nat->DV} {t:Nat}:∀ {ts:List Nat},look (ts.map fun t=>(t,f t)) t = if t ∈ ts then f t else .any
  | []=>rfl
  | a :: r=>by
    simp only [List.map_cons,look]
    by_cases h:a = t
    · subst h; simp
    · rw [if_neg h,Qi5]
      by_cases hr:t ∈ r
      · rw [if_pos hr,if_pos (List.mem_cons_of_mem _ hr)]
      · rw [if_neg hr,if_neg (by simp [hr]; exact fun e=>h e.symm)]
theorem Qej (S:St) (ts:List Nat) (t:Nat) (h:t ∈ ts):look (S.only ts).tm t = look S.tm t:=by
  show look (ts.map _) t = _
  rw [Qi5,if_pos h]
theorem QpH {P:Program} {ops:Array Oper} {o:Oper} {K:St->Prop} {S S':St} (ht:∀ t ∈ o.looksAt ops,look S'.tm t = look S.tm t) (hn:S'.nt = S.nt) (hh:S'.hp = S.hp) (h:Qag P ops.toList [o] K S) :
    Qag P ops.toList [o] (fun S1=>∃ d hp',S1 = (S'.at hp').put o.dst d/\K ((S.at hp').put o.dst d)) S':=by
  unfold Qag at h |-
  obtain ⟨hf,h⟩:=h
  refine ⟨by unfold St.fits at hf |-; rw [hn]; exact hf,?_⟩
  rw [Qa6 (S:=S) ht]
  split at h
  · exact h.elim
  · simp only [Qag] at h |-
    refine ⟨.tup [],S.hp,?_,h⟩
    rw [<- hh]; rfl
  · have hev:∀ x ∈ o.op.operands.toList,Qm true (S'.ev x) = Qm true (S.ev x):=fun x hx=>by rw [QhD ht x hx]
    rw [QgZ hev,Qbl hev,hh]
    split at h
    · rename_i g args hc
      simp only [Qag] at h |-
      exact h.mono fun r h' hk=>⟨_,h',rfl,hk⟩
    · split at h
      · rename_i d hp' hv
        simp only [Qag] at h |-
        exact ⟨_,_,rfl,h⟩
      · exact h.elim
theorem Qlj {P:Program} {O:Org} {ops:Array Oper} {Q:Exit->Act->World->Prop} {o:Oper} {K:St->Prop} {β:Map} {S:St} {a:Act} {w:World} (hs:Sim O β S a w) (h:Qag P ops.toList [o] K S) {next:Act->World->Prop}
    (hn:∀ β' d v hp' w',Evo w β S.hp w' β' hp'->HeapRel w' β' hp'->RelD w' β' hp' d v->S.fits o.dst = true->K ((S.at hp').put o.dst d)->next (a.put o.dst v) w') :
    if Region.wanted o (yielded ops a.tmps) then o.wp P a w next Q\/(o.asks P a w/\LetsOut Q) else next (a.put o.dst undef) w:=by
  unfold Qag at h
  obtain ⟨hf,h⟩:=h
  split at h
  · exact h.elim
  · rename_i hg
    rw [QK (ops:=ops) hs hg,if_neg (by simp)]
    exact hn β (.tup []) undef S.hp w (Evo.refl _ _ _) hs.heap (.tup [] #[] rfl (by simp)) hf (by simp only [Qag] at h; exact h)
  · rename_i hg
    rw [QK (ops:=ops) hs hg,if_pos rfl]
    have hev:∀ x,RelD w β S.hp (Qm true (S.ev x)) (a.eval x):=fun x=>Qal (hs.ev x) rfl
    split at h
    · rename_i g args hc
      refine .inl (Qg0 hev hc hs.heap h (fun v r h' β' w' k1 k2 k3 k4=>?_))
      exact hn β' _ v h' w' k1 k2 (Qaq k3) hf (by simpa only [Qag] using k4)
    · split at h
      · rename_i d hp' hv
        refine .inl (Qbx (QaJ hs.heap hev (fun _=>rfl) hv) (fun v w' β' k1 k2 k3=>?_))
        exact hn β' _ v hp' w' k1 k2 (Qaq k3) hf (by simpa only [Qag] using h)
      · exact h.elim
def Qeo (o:Oper):Bool:=o.guard.isNone && match o.op with | .alloc _ | .box .. | .buildSlice ..=>true | _=>false
def QtD (P:Program) (ev:Operand->DV) (o:Op):Option (DV × Blk):=
  match vop P ev [] o with
  | some (.ptr 0 0,[B])=>some (.ptr 0 0,B)
  | some (.own 0 sz 0 n,[B])=>some (.own 0 sz 0 n,B)
  | _=>none
def Qfk (P:Program) (ev:Operand->DV) (o:Op):Prop:=
  match QtD P ev o with
  | some (_,B)=>B.live = true/\0 < B.cells.length/\DV.nums.go (fun _=>false) B.cells = true/\DV.nums.go (fun _=>false) (o.operands.toList.map ev) = true
  | none=>False
theorem QoX {P:Program} {ev:Operand->DV} {o:Oper} (hc:Qeo o = true) {d:DV} {B:Blk} (h:QtD P ev o.op = some (d,B)) (hp:Qa):vop P ev hp o.op = some (d.ren (fun _=>hp.length),hp ++ [B]):=by
  have key:∀ {x:Option (DV × Qa)},(match x with | some (.ptr 0 0,[B])=>some (.ptr 0 0,B) | some (.own 0 sz 0 n,[B])=>some (.own 0 sz 0 n,B) | _=>(none:Option (DV × Blk))) = some (d,B)->x = some (d,[B]):=by
    intro x hx
    split at hx
    · simp at hx; obtain ⟨rfl,rfl⟩:=hx; rfl
    · simp at hx; obtain ⟨rfl,rfl⟩:=hx; rfl
    · simp at hx
  have h:=key h
  unfold Qeo at hc
  simp only [Bool.and_eq_true] at hc
  have hc:=hc.2
  split at hc
  · rename_i T ho
    rw [ho] at h |-
    simp only [vop,Qga] at h |-
    split at h
    · split at h
      · rename_i h1; simp at h; obtain ⟨rfl,rfl⟩:=h; simp [DV.ren,h1]
      · simp at h
    · simp at h
  · rename_i T x ho
    rw [ho] at h |-
    simp only [vop,QAr] at h |-
    split at h
    · rename_i h1; simp at h; obtain ⟨rfl,rfl⟩:=h; simp [DV.ren,h1]
    · simp at h
  · rename_i T n ps ho
    rw [ho] at h |-
    simp only [vop,QaT] at h |-
    split at h
    · split at h
      · split at h
        · rename_i h1
          obtain ⟨cs,h2,h3⟩:=Qy h
          simp at h3
          obtain ⟨rfl,rfl⟩:=h3
          rw [if_pos h1,h2]; simp [DV.ren]
        · simp at h
      · simp at h
    · simp at h
  · simp at hc
structure Resv (w:World) (β:Map) (hp:Qa) (d:DV) (B:Blk) (v:Value) (b:Nat):Prop where
  live:B.live = true
  nums:DV.nums.go (fun _=>false) B.cells = true
  out:β.X b
  blk:∃ C:Row,w.heap[b]? = some (.cells C.v B.ty C.m)/\B.cells.length<=C.v.size/\(∀ (i:Nat) (e:DV),B.cells[i]? = some e->e.one = true/\RelD w β hp e (C.v.getD i undef)) /\
    ((d = .ptr 0 0/\v = .pointer (some ⟨b,0,none⟩))\/∃ sz n cap,d = .own 0 sz 0 n/\v = .slice (some ⟨b,0,none⟩) n cap/\n<=cap/\cap<=maxLen/\cap * sz<=C.v.size)
theorem Resv.evo {w w':World} {β β':Map} {hp hp':Qa} {d:DV} {B:Blk} {v:Value} {b:Nat} (h:Resv w β hp d B v b) (hh:HeapRel w β hp) (e:Evo w β hp w' β' hp'):Resv w' β' hp' d B v b:=by
  obtain ⟨h1,h2,h3,C,c1,c2,c3,c4⟩:=h
  refine ⟨h1,h2,by rw [e.X]; exact h3,C,?_,c2,fun i x hx=>⟨(c3 i x hx).1,(c3 i x hx).2.mono e⟩,c4⟩
  have hlt:=(Array.getElem?_eq_some_iff.1 c1).1
  rw [e.same b hlt (by rintro ⟨k,D,k1,k2,k3⟩; exact hh.avoid k D b k1 k2 k3 h3)]
  exact c1
theorem QoW {P:Program} {w:World} {β:Map} {hp:Qa} (hh:HeapRel w β hp) {ev:Operand->DV} {ρ:Operand->Value} {o:Oper} (hev:∀ x ∈ o.op.operands.toList,RelD w β hp (ev x) (ρ x)) (hρ:∀ v,ρ (.const v) = v) (hc:Qfk P ev o.op) :
    ∃ d B v w' b,QtD P ev o.op = some (d,B)/\((execOp ρ o).run P w = .ok (.value v) w'\/((execOp ρ o).run P w = .ok .skip w'/\v = undef))/\w'.os = w.os/\w'.tape = w.tape/\w'.output = w.output/\w.heap.size<=w'.heap.size/\w.heap.size<=b/\b < w'.heap.size/\(∀ x,x < w.heap.size->w'.heap[x]? = w.heap[x]?) /\
      Resv w' ⟨β.f,fun x=>β.X x\/x = b⟩ hp d B v b:=by
  unfold Qfk at hc
  cases hcr:QtD P ev o.op with
  | none=>rw [hcr] at hc; exact hc.elim
  | some db =>
    obtain ⟨d,B⟩:=db
    rw [hcr] at hc
    obtain ⟨c1,c2,c3,c4⟩:=hc
    let βe:Map:=⟨fun _=>none,img β hp⟩
    have hhe:HeapRel w βe []:=⟨by simp,by simp,by simp,by simp,fun b hb=>by
      rcases hb with hb | hb
      · exact hh.bound b hb
      · exact QbK hh hb⟩
    have hime:∀ b,img βe [] b->img β hp b:=fun b hb=>by
      rcases hb with hb | ⟨k,D,h1,_⟩
      · exact hb
      · simp at h1
    -- only the operands are asked
    classical
    let ev2:Operand->DV:=fun x=>if x ∈ o.op.operands.toList then ev x else .any
    have hev2:∀ x,RelD w βe [] (ev2 x) (ρ x):=fun x=>by
      show RelD w βe [] (if x ∈ o.op.operands.toList then ev x else .any) (ρ x)
      split
      · rename_i hx
        obtain ⟨i,hi⟩:=List.mem_iff_getElem?.1 hx
        exact (hev x hx).closed (DV.nums_go c4 i (ev x) (by rw [List.getElem?_map,hi]; rfl)) hime
      · exact .any _
    have hvop:vop P ev2 [] o.op = vop P ev [] o.op:=Qbl fun x hx=>by show (if _ then _ else _) = _; rw [if_pos hx]
    have hv:vop P ev [] o.op = some (d,[B])/\(d = .ptr 0 0\/∃ sz n,d = .own 0 sz 0 n):=by
      unfold QtD at hcr
      split at hcr
      · rename_i h; simp at hcr; obtain ⟨rfl,rfl⟩:=hcr; exact ⟨h,.inl rfl⟩
      · rename_i h; simp at hcr; obtain ⟨rfl,rfl⟩:=hcr; exact ⟨h,.inr ⟨_,_,rfl⟩⟩
      · simp at hcr
    obtain ⟨v,w',β',h1,ev',hh',hrel⟩:=QaJ hhe hev2 hρ (o:=o) (hvop.trans hv.1)
    have hold:∀ x,x < w.heap.size->w'.heap[x]? = w.heap[x]?:=fun x hx=>ev'.same x hx (by rintro ⟨k,D,k1,_⟩; simp at k1)
    have hf:∃ b,β'.f 0 = some b:=by
      cases hb:β'.f 0 with
      | some b=>exact ⟨b,rfl⟩
      | none=>have:=hh'.none 0 B rfl c1 hb; rw [this] at c2; simp at c2
    obtain ⟨b,hb⟩:=hf
    obtain ⟨C,g1,g2,g3⟩:=hh'.blk 0 B b rfl c1 hb
    have hlb:live β' [B] b:=⟨0,B,rfl,c1,hb⟩
    have hge:w.heap.size<=b:=by
      by_cases hlt:b < w.heap.size
      · obtain ⟨k,D,k1,_⟩:=ev'.im b hlt hlb
        simp at k1
      · omega
    have him:∀ x,img (⟨β.f,fun x=>β.X x\/x = b⟩:Map) hp x->img β' [B] x:=by
      rintro x ((h | h) | h)
      · exact .inl (by rw [ev'.X]; exact .inl h)
      · rw [h]; exact .inr hlb
      · exact .inl (by rw [ev'.X]; exact .inr h)
    refine ⟨d,B,v,w',b,rfl,h1,ev'.os,ev'.tape,ev'.output,ev'.size,hge,(Array.getElem?_eq_some_iff.1 g1).1,hold,c1,c3,.inr rfl,C,g1,g2,fun i e he=>⟨(g3 i e he).1,(g3 i e he).2.closed (DV.nums_go c3 i e he) him⟩,?_⟩
    rcases hv.2 with rfl | ⟨sz,n,rfl⟩
    · cases hrel with
      | ptr _ _ b' _ hb'=>rw [hb] at hb'; cases hb'; exact .inl ⟨rfl,rfl⟩
    · cases hrel with
      | own _ _ _ _ cap b' C' T' m0 hk hm l1 l2 l3 l4 =>
        rw [hb] at hm; cases hm
        rw [g1] at l3; cases l3
        exact .inr ⟨sz,n,cap,rfl,rfl,l1,l2,by simpa using l4⟩
      | own0 _ _ a _ hm _=>rw [hb] at hm; cases hm
mutual
theorem QiO:∀ (d:DV),d.ren (fun k=>k) = d
  | .pv _=>rfl
  | .ptr _ _=>rfl
  | .own _ _ _ _=>rfl
  | .ownc _ _ _ _ _=>rfl
  | .ip _=>rfl
  | .any=>rfl
  | .agg cs=>by simp only [DV.ren]; rw [Qbt cs]
  | .tup cs=>by simp only [DV.ren]; rw [Qbt cs]
  | .fn f a b=>by simp only [DV.ren]; rw [Qbt a,Qbt b]
  | .opt c d=>by simp only [DV.ren]; rw [QiO d]
theorem Qbt:∀ (ds:List DV),DV.ren.go (fun k=>k) ds = ds
  | []=>rfl
  | d :: r=>by simp only [DV.ren.go]; rw [QiO d,Qbt r]
end
theorem adopt {w:World} {β:Map} {hp:Qa} (hh:HeapRel w β hp) {d:DV} {B:Blk} {v:Value} {b:Nat} (r:Resv w β hp d B v b) :
    HeapRel w ⟨(ext β hp.length (some b)).f,fun x=>β.X x/\x ≠ b⟩ (hp ++ [B])/\(∀ e u,RelD w β hp e u->RelD w ⟨(ext β hp.length (some b)).f,fun x=>β.X x/\x ≠ b⟩ (hp ++ [B]) e u) /\
      RelD w ⟨(ext β hp.length (some b)).f,fun x=>β.X x/\x ≠ b⟩ (hp ++ [B]) (d.ren fun _=>hp.length) v /\
      (∀ x,live ⟨(ext β hp.length (some b)).f,fun x=>β.X x/\x ≠ b⟩ (hp ++ [B]) x->live β hp x\/x = b)/\(∀ k,k < hp.length->(ext β hp.length (some b)).f k = β.f k):=by
  obtain ⟨r1,r2,r3,C,c1,c2,c3,c4⟩:=r
  have hlive:∀ x,live ⟨(ext β hp.length (some b)).f,fun x=>β.X x/\x ≠ b⟩ (hp ++ [B]) x->live β hp x\/x = b:=fun x hx=>(Qen (β:=β) r1).1 hx
  have himg:∀ x,img ⟨(ext β hp.length (some b)).f,fun x=>β.X x/\x ≠ b⟩ (hp ++ [B]) x->img β hp x:=by
    rintro x (⟨h,_⟩ | h)
    · exact .inl h
    · rcases hlive x h with h | rfl
      · exact .inr h
      · exact .inl r3
  have mono:∀ e u,RelD w β hp e u->RelD w ⟨(ext β hp.length (some b)).f,fun x=>β.X x/\x ≠ b⟩ (hp ++ [B]) e u:=fun e u h=>by
    have:=RelD.ren (σ:=fun k=>k) (p:=fun _=>true) (hp':=hp ++ [B]) (β':=⟨(ext β hp.length (some b)).f,fun x=>β.X x/\x ≠ b⟩) (fun k _ hk=>⟨by simp; omega,QaN hk⟩) himg h (Qem e)
    rwa [QiO] at this
  have lt_of:∀ {k:Nat} {D:Blk},(hp ++ [B])[k]? = some D->(k < hp.length/\hp[k]? = some D/\(ext β hp.length (some b)).f k = β.f k)\/(k = hp.length/\D = B/\(ext β hp.length (some b)).f k = some b):=fun {k D} h=>by
    rcases Nat.lt_trichotomy k hp.length with hlt | heq | hgt
    · rw [List.getElem?_append_left hlt] at h
      exact .inl ⟨hlt,h,QaN hlt⟩
    · subst heq
      simp at h
      exact .inr ⟨rfl,h.symm,by simp [ext]⟩
    · rw [List.getElem?_append_right (by omega),List.getElem?_eq_none (by simp; omega)] at h
      simp at h
  refine ⟨⟨fun k D x hk hD hx=>?_,fun k D hk hD hx=>?_,fun j k D D' x hj hk hD hD' h1 h2=>?_,fun k D x hk hD hx=>?_,fun x hx=>hh.bound x hx.1⟩,mono,?_,hlive,fun k hk=>QaN hk⟩
  · rcases lt_of hk with ⟨_,hk',he⟩ | ⟨rfl,rfl,he⟩
    · have hx':β.f k = some x:=he.symm.trans hx
      obtain ⟨C',g1,g2,g3⟩:=hh.blk k D x hk' hD hx'
      exact ⟨C',g1,g2,fun i e he=>⟨(g3 i e he).1,mono _ _ (g3 i e he).2⟩⟩
    · have hx':some b = some x:=he.symm.trans hx
      cases hx'
      exact ⟨C,c1,c2,fun i e he=>⟨(c3 i e he).1,mono _ _ (c3 i e he).2⟩⟩
  · rcases lt_of hk with ⟨_,hk',he⟩ | ⟨rfl,rfl,he⟩
    · exact hh.none k D hk' hD (he.symm.trans hx)
    · have hx':some b = none:=he.symm.trans hx
      cases hx'
  · rcases lt_of hj with ⟨_,hj',hje⟩ | ⟨rfl,rfl,hje⟩<;>rcases lt_of hk with ⟨_,hk',hke⟩ | ⟨rfl,rfl,hke⟩
    · exact hh.inj j k D D' x hj' hk' hD hD' (hje.symm.trans h1) (hke.symm.trans h2)
    · have h2':some b = some x:=hke.symm.trans h2
      cases h2'
      exact absurd r3 (hh.avoid j D b hj' hD (hje.symm.trans h1))
    · have h1':some b = some x:=hje.symm.trans h1
      cases h1'
      exact absurd r3 (hh.avoid k D' b hk' hD' (hke.symm.trans h2))
    · rfl
  · rcases lt_of hk with ⟨_,hk',he⟩ | ⟨rfl,rfl,he⟩
    · rintro ⟨hX,_⟩
      exact hh.avoid k D x hk' hD (he.symm.trans hx) hX
    · have hx':some b = some x:=he.symm.trans hx
      cases hx'
      rintro ⟨_,hne⟩
      exact hne rfl
  · have hfn:(ext β hp.length (some b)).f hp.length = some b:=by simp [ext]
    rcases c4 with ⟨rfl,rfl⟩ | ⟨sz,n,cap,rfl,rfl,l1,l2,l3⟩
    · exact .ptr _ 0 b (by simp) hfn
    · exact .own _ sz 0 n cap b C.v B.ty _ (by simp) hfn l1 l2 c1 (by simpa using l3)
end Go.V
namespace Go.V
structure Seg where
  R:List Nat
  C:List Nat
  c:Nat
  F:List Nat
  H:List Nat
def pick (all:List Oper):List Nat->List Oper
  | []=>[]
  | i :: r=>match all[i]? with | some o=>o :: pick all r | none=>pick all r
def Qgi (hp hp1:Qa):List Nat->Prop
  | []=>True
  | k :: r=>hp1[k]? = hp[k]?/\Qgi hp hp1 r
def QnD (S S1:St) (o:Oper) (G:Option Bool):Prop:=
  match G with
  | some G=>Qgi S.hp S1.hp (QbM (fun x=>Qm G (S1.ev x)) o.op).1
  | none=>True
def QhH (all:List Oper) (S S1:St):List Oper->Prop
  | []=>True
  | o :: r=>QnD S S1 o (QA all S1 o)/\QhH all S S1 r
def Qch (P:Program) (S:St):List Oper->Prop
  | []=>True
  | o :: r=>(S.fits o.dst = true/\Qfk P (fun x=>Qm true (S.ev x)) o.op)/\Qch P S r
def vsp (P:Program) (all:List Oper):List Seg->(St->Prop)->St->Prop
  | [],K,S=>K S
  | s :: r,K,S=>Qch P S (pick all s.R)/\Qag P all (pick all (s.C ++ [s.c])) (fun S1=>QhH all S S1 (pick all s.F)/\Qag P all (pick all s.H) (vsp P all r K) S1) S
def bnd (ops:Array Oper) (j i:Nat):Bool:=match ops[j]? with | some o=>o.after.toList.any fun e=>Region.binds .any e && e.on == i | none=>false
def dstOf (ops:Array Oper) (i:Nat):Option Nat:=match ops[i]? with | some o=>o.dst | none=>none
def Qhy (ops:Array Oper) (i t:Nat):Bool:=match ops[i]? with | some o=>(o.looksAt ops).contains t | none=>false
def QjN (ops:Array Oper) (i t:Nat):Bool:=Qhy ops i t || dstOf ops i == some t
def QeT (o:Oper):Bool:=Q6 o.op && match o.op with | .store .. | .assign _=>false | _=>true
def isF (ops:Array Oper) (i:Nat):Bool:=match ops[i]? with | some o=>QeT o | none=>false
def isC (ops:Array Oper) (i:Nat):Bool:=match ops[i]? with | some o=>Qeo o | none=>false
def QgL (ops:Array Oper):List Nat->Bool
  | []=>true
  | f :: r=>r.all (fun g=>!bnd ops f g) && QgL ops r
def nodup:List Nat->Bool
  | []=>true
  | a :: r=>!r.contains a && nodup r
def Qng:List (Option Nat)->Bool
  | []=>true
  | a :: r=>!r.contains a && Qng r
def Seg.ok (ops:Array Oper) (fl:List Nat) (s:Seg) (r:List Seg):Bool :=
  decide (s.c < ops.size) &&
  fl.all (fun f=>s.F.contains f || bnd ops s.c f) &&
  fl.all (fun f=>!bnd ops f s.c && r.all fun s'=>!bnd ops f s'.c) &&
  s.C.all (fun j=>bnd ops s.c j) &&
  ((s :: r).flatMap (·.C)).all (fun j=>s.R.contains j || (((s :: r).map (·.c)) ++ (s :: r).flatMap (·.H)).any fun i=>bnd ops j i) &&
  s.C.all (fun j=>isC ops j && match dstOf ops j with
    | some t=>(List.range ops.size).all fun i=>i == j || !QjN ops i t || ((s :: r).map (·.c)).contains i
    | none=>false) &&
  s.H.all (fun f=>bnd ops f s.c || s.H.any fun g=>bnd ops f g) &&
  match r with | []=>true | s' :: _=>bnd ops s'.c s.c
def Qbr (ops:Array Oper):List Nat->List Seg->Bool
  | _,[]=>true
  | fl,s :: r=>s.ok ops fl r && Qbr ops (fl ++ s.H) r
def QDr (ops:Array Oper) (Fl Sp Cr:List Nat):Bool :=
  (List.range ops.size).all (fun i=>Fl.contains i || Sp.contains i || Cr.contains i) &&
  Fl.all (fun f=>!Sp.contains f && !Cr.contains f) && Sp.all (fun c=>!Cr.contains c) && nodup Fl && nodup Sp && nodup Cr && Qng (Fl.map (dstOf ops)) && QgL ops Fl &&
  Fl.all (fun f=>isF ops f && match dstOf ops f with
    | some t=>!Qhy ops f t && (List.range ops.size).all fun i=>i == f || !QjN ops i t || bnd ops i f
    | none=>false) &&
  Sp.all (fun c=>match dstOf ops c with
    | some t=>Fl.all fun f=>!Qhy ops f t || bnd ops c f || bnd ops f c
    | none=>true) &&
  Cr.all (fun j=>(List.range ops.size).all fun i=>match dstOf ops i with
    | some t=>i == j || !Qhy ops j t || bnd ops j i
    | none=>true) &&
  (List.range ops.size).all (fun j=>match ops[j]? with | some o=>o.after.toList.all fun e=>!Region.binds .any e || decide (e.on < j) | none=>true)
def Qgh (ops:Array Oper) (H0:List Nat) (segs:List Seg):Bool:=
  QDr ops (H0 ++ segs.flatMap (·.H)) (segs.map (·.c)) (segs.flatMap (·.C)) && Qbr ops H0 segs && H0.all fun f=>(segs.map (·.c)).all fun c=>!bnd ops f c
structure Glob (ops:Array Oper) (Fl Sp Cr:List Nat):Prop where
  all:∀ i,i < ops.size->i ∈ Fl\/i ∈ Sp\/i ∈ Cr
  fs:∀ f ∈ Fl,¬ f ∈ Sp/\¬ f ∈ Cr
  sc:∀ c ∈ Sp,¬ c ∈ Cr
  nf:Fl.Nodup
  ns:Sp.Nodup
  nc:Cr.Nodup
  nd:∀ f g,f ∈ Fl->g ∈ Fl->dstOf ops f = dstOf ops g->f = g
  fo:QgL ops Fl = true
  fl:∀ f ∈ Fl,∃ o t,ops[f]? = some o/\QeT o = true/\o.dst = some t/\¬ t ∈ o.looksAt ops/\∀ i,i < ops.size->i ≠ f->QjN ops i t = true->bnd ops i f = true
  sp:∀ c ∈ Sp,∀ t,dstOf ops c = some t->∀ f ∈ Fl,Qhy ops f t = true->bnd ops c f = true\/bnd ops f c = true
  cr:∀ j ∈ Cr,∀ i t,i < ops.size->dstOf ops i = some t->i ≠ j->Qhy ops j t = true->bnd ops j i = true
  back:∀ j o,ops[j]? = some o->∀ e ∈ o.after,Region.binds .any e = true->e.on < j
theorem Qdg:∀ {l:List Nat},nodup l = true->l.Nodup
  | [],_=>List.nodup_nil
  | a :: r,h=>by
    simp only [nodup,Bool.and_eq_true,Bool.not_eq_true',List.contains_eq_mem,decide_eq_false_iff_not] at h
    exact List.nodup_cons.2 ⟨h.1,Qdg h.2⟩
theorem QgF {ops:Array Oper}:∀ {l:List Nat},Qng (l.map (dstOf ops)) = true->∀ f g,f ∈ l->g ∈ l->dstOf ops f = dstOf ops g->f = g
  | [],_,f,g,h,_,_=>by simp at h
  | a :: r,hn,f,g,hf,hg,e=>by
    simp only [List.map_cons,Qng,Bool.and_eq_true,Bool.not_eq_true',List.contains_eq_mem,decide_eq_false_iff_not] at hn
    rcases List.mem_cons.1 hf with e1 | hf2<;>rcases List.mem_cons.1 hg with e2 | hg2
    · rw [e1,e2]
    · subst e1; exact absurd (List.mem_map.2 ⟨g,hg2,e.symm⟩) hn.1
    · subst e2; exact absurd (List.mem_map.2 ⟨f,hf2,e⟩) hn.1
    · exact QgF hn.2 f g hf2 hg2 e
theorem Qsl {ops:Array Oper} {Fl Sp Cr:List Nat} (h:QDr ops Fl Sp Cr = true):Glob ops Fl Sp Cr:=by
  simp only [QDr,Bool.and_eq_true] at h
  obtain ⟨⟨⟨⟨⟨⟨⟨⟨⟨⟨⟨h1,h2⟩,h3⟩,h4⟩,h5⟩,h6⟩,h7⟩,h8⟩,h9⟩,h10⟩,h11⟩,h12⟩:=h
  refine ⟨fun i hi=>?_,fun f hf=>?_,fun c hc=>?_,Qdg h4,Qdg h5,Qdg h6,QgF h7,h8,fun f hf=>?_,fun c hc t ht f hf hl=>?_,fun j hj i t hi ht hne hl=>?_,fun j o ho e he hb=>?_⟩
  · have:=List.all_eq_true.1 h1 i (List.mem_range.2 hi)
    simpa [or_assoc] using this
  · have:=List.all_eq_true.1 h2 f hf
    simpa using this
  · have:=List.all_eq_true.1 h3 c hc
    simpa using this
  · have:=List.all_eq_true.1 h9 f hf
    simp only [Bool.and_eq_true] at this
    obtain ⟨k1,k2⟩:=this
    unfold isF at k1
    cases ho:ops[f]? with
    | none=>rw [ho] at k1; simp at k1
    | some o =>
      rw [ho] at k1
      simp only [dstOf,ho] at k2
      cases hd:o.dst with
      | none=>rw [hd] at k2; simp at k2
      | some t =>
        rw [hd] at k2
        simp only [Bool.and_eq_true,Bool.not_eq_true'] at k2
        refine ⟨o,t,rfl,k1,hd,?_,fun i hi hne hu=>?_⟩
        · have:=k2.1
          simp only [Qhy,ho,List.contains_eq_mem,decide_eq_false_iff_not] at this
          exact this
        · have:=List.all_eq_true.1 k2.2 i (List.mem_range.2 hi)
          simp only [Bool.or_eq_true,beq_iff_eq,Bool.not_eq_true'] at this
          rcases this with (h | h) | h
          · exact absurd h hne
          · rw [hu] at h; cases h
          · exact h
  · have:=List.all_eq_true.1 h10 c hc
    rw [ht] at this
    have:=List.all_eq_true.1 this f hf
    simp only [Bool.or_eq_true,Bool.not_eq_true'] at this
    rcases this with (h | h) | h
    · rw [hl] at h; cases h
    · exact .inl h
    · exact .inr h
  · have:=List.all_eq_true.1 (List.all_eq_true.1 h11 j hj) i (List.mem_range.2 hi)
    rw [ht] at this
    simp only [Bool.or_eq_true,beq_iff_eq,Bool.not_eq_true'] at this
    rcases this with (h | h) | h
    · exact absurd h hne
    · rw [hl] at h; cases h
    · exact h
  · have hj:j < ops.size:=(Array.getElem?_eq_some_iff.1 ho).1
    have:=List.all_eq_true.1 h12 j (List.mem_range.2 hj)
    rw [ho] at this
    have:=List.all_eq_true.1 this e (by simpa using he)
    simpa [hb] using this
structure SegOk (ops:Array Oper) (fl:List Nat) (s:Seg) (r:List Seg):Prop where
  lt:s.c < ops.size
  ff:∀ f ∈ fl,f ∈ s.F\/bnd ops s.c f = true
  fc:∀ f ∈ fl,bnd ops f s.c = false/\∀ s' ∈ r,bnd ops f s'.c = false
  cc:∀ j ∈ s.C,bnd ops s.c j = true
  rr:∀ j ∈ (s :: r).flatMap (·.C),j ∈ s.R\/∃ i ∈ ((s :: r).map (·.c)) ++ (s :: r).flatMap (·.H),bnd ops j i = true
  cd:∀ j ∈ s.C,∃ o t,ops[j]? = some o/\Qeo o = true/\o.dst = some t/\∀ i,i < ops.size->i ≠ j->QjN ops i t = true->i ∈ (s :: r).map (·.c)
  hh:∀ f ∈ s.H,bnd ops f s.c = true\/∃ g ∈ s.H,bnd ops f g = true
  ch:∀ s' r',r = s' :: r'->bnd ops s'.c s.c = true
theorem Qc5 {ops:Array Oper} {fl:List Nat} {s:Seg} {r:List Seg} (h:s.ok ops fl r = true):SegOk ops fl s r:=by
  simp only [Seg.ok,Bool.and_eq_true] at h
  obtain ⟨⟨⟨⟨⟨⟨⟨h1,h2⟩,h3⟩,h4⟩,h5⟩,h6⟩,h7⟩,h8⟩:=h
  refine ⟨of_decide_eq_true h1,fun f hf=>?_,fun f hf=>?_,fun j hj=>List.all_eq_true.1 h4 j hj,fun j hj=>?_,fun j hj=>?_,fun f hf=>?_,fun s' r' e=>?_⟩
  · have:=List.all_eq_true.1 h2 f hf
    simpa using this
  · have:=List.all_eq_true.1 h3 f hf
    simpa using this
  · have:=List.all_eq_true.1 h5 j hj
    simp only [Bool.or_eq_true,List.contains_eq_mem,decide_eq_true_eq,List.any_eq_true] at this
    exact this
  · have:=List.all_eq_true.1 h6 j hj
    simp only [Bool.and_eq_true] at this
    obtain ⟨k1,k2⟩:=this
    unfold isC at k1
    cases ho:ops[j]? with
    | none=>rw [ho] at k1; simp at k1
    | some o =>
      rw [ho] at k1
      simp only [dstOf,ho] at k2
      cases hd:o.dst with
      | none=>rw [hd] at k2; simp at k2
      | some t =>
        rw [hd] at k2
        refine ⟨o,t,rfl,k1,hd,fun i hi hne hu=>?_⟩
        have:=List.all_eq_true.1 k2 i (List.mem_range.2 hi)
        simp only [Bool.or_eq_true,beq_iff_eq,Bool.not_eq_true',List.contains_eq_mem,decide_eq_true_eq] at this
        rcases this with (h | h) | h
        · exact absurd h hne
        · rw [hu] at h; cases h
        · exact h
  · have:=List.all_eq_true.1 h7 f hf
    simp only [Bool.or_eq_true,List.any_eq_true] at this
    exact this
  · subst e; exact h8
end Go.V
namespace Go.V
structure CInv (O:Org) (hid:Nat->Prop) (rb:Nat->Option Nat) (β:Map) (S:St) (a:Act) (w:World):Prop where
  defers:a.defers = O.ds
  size:a.tmps.size = S.nt
  tm:∀ t,¬ hid t->RelD w β S.hp (look S.tm t) (a.tmps.getD t undef)
  heap:HeapRel w β S.hp
  evo:Evo O.w O.β O.hp w ⟨β.f,O.β.X⟩ S.hp
  base:O.hp.length = S.base
  sub:∀ b,β.X b ↔ (O.β.X b\/∃ j,rb j = some b)
  rinj:∀ i j b,rb i = some b->rb j = some b->i = j
  rnew:∀ j b,rb j = some b->O.w.heap.size<=b/\¬ O.β.X b
theorem Evo.reX {w w':World} {β β':Map} {hp hp':Qa} (e:Evo w β hp w' β' hp') (X:Nat->Prop):Evo w ⟨β.f,X⟩ hp w' ⟨β'.f,X⟩ hp':=
  ⟨e.os,e.tape,e.output,e.size,e.len,e.beta,e.same,e.shape,e.im,rfl⟩
theorem Qbh {a:Act} {dst:Option Tmp} {v:Value} {t:Nat} (hf:∀ u,dst = some u->u < a.tmps.size):(a.put dst v).tmps.getD t undef = if dst = some t then v else a.tmps.getD t undef:=by
  cases dst with
  | none=>simp [Act.put]
  | some u =>
    have hu:=hf u rfl
    by_cases h:u = t
    · subst h; simp [Act.put,hu]
    · have:¬ (some u = some t):=fun e=>h (Option.some.inj e)
      rw [if_neg this]
      simp [Act.put,Array.getD_eq_getD_getElem?,h]
theorem Qcd {a:Act} {dst:Option Tmp} {v:Value}:(a.put dst v).tmps.size = a.tmps.size:=by cases dst<;>simp [Act.put]
theorem Qbo {a:Act} {dst:Option Tmp} {v:Value}:(a.put dst v).defers = a.defers:=by cases dst<;>rfl
theorem Qau (S:St) (dst:Option Tmp) (d:DV) (t:Nat):look (S.put dst d).tm t = if dst = some t then d else look S.tm t:=by
  cases dst with
  | none=>simp [St.put]
  | some u =>
    by_cases h:u = t
    · subst h; simp [St.put,look]
    · have:¬ (some u = some t):=fun e=>h (Option.some.inj e)
      rw [if_neg this]
      simp [St.put,look,h]
theorem CInv.step {O:Org} {hid:Nat->Prop} {rb:Nat->Option Nat} {β β':Map} {S:St} {a:Act} {w w':World} {hp':Qa} {dst:Option Tmp} {d:DV} {v:Value} (h:CInv O hid rb β S a w) (e:Evo w β S.hp w' β' hp') (hh:HeapRel w' β' hp') (hd:RelD w' β' hp' d v) (hf:S.fits dst = true) :
    CInv O (fun t=>hid t/\dst ≠ some t) rb β' ((S.at hp').put dst d) (a.put dst v) w':=by
  have hfit:∀ u,dst = some u->u < a.tmps.size:=fun u hu=>by rw [h.size]; subst hu; simpa [St.fits] using hf
  refine ⟨by rw [Qbo]; exact h.defers,by rw [Qcd,St.put_nt]; exact h.size,fun t ht=>?_,by rw [St.put_hp]; exact hh,by rw [St.put_hp]; exact h.evo.trans (e.reX _),by rw [St.put_base]; exact h.base,fun b=>by rw [e.X]; exact h.sub b,h.rinj,h.rnew⟩
  rw [Qau,Qbh hfit,St.put_hp]
  by_cases hd':dst = some t
  · rw [if_pos hd',if_pos hd']; exact hd
  · rw [if_neg hd',if_neg hd']
    exact (h.tm t (fun hh=>ht ⟨hh,hd'⟩)).mono e
theorem CInv.hide {O:Org} {hid hid':Nat->Prop} {rb:Nat->Option Nat} {β:Map} {S:St} {a:Act} {w:World} (h:CInv O hid rb β S a w) (hs:∀ t,hid t->hid' t):CInv O hid' rb β S a w:=
  { h with tm:=fun t ht=>h.tm t (fun x=>ht (hs t x)) }
theorem CInv.only {O:Org} {hid:Nat->Prop} {rb:Nat->Option Nat} {β:Map} {S:St} {a:Act} {w:World} (h:CInv O hid rb β S a w) {ts:List Nat} (ht:∀ t ∈ ts,¬ hid t) :
    Sim ⟨w,β,S.hp,O.ds⟩ β (S.only ts) a w:=by
  refine ⟨h.defers,h.size,fun t=>?_,h.heap,Evo.refl _ _ _,rfl⟩
  show RelD w β S.hp (look (ts.map fun t=>(t,look S.tm t)) t) _
  rw [Qi5]
  split
  · rename_i hm; exact h.tm t (ht t hm)
  · exact .any _
theorem RelD.out {w w':World} {β:Map} {hp:Qa} {X:Nat->Prop} {d:DV} {v:Value} (h:RelD w β hp d v) (hsz:w.heap.size<=w'.heap.size) (hs:∀ x,x < w.heap.size->w'.heap[x]? = w.heap[x]?) (hX:∀ b,b < w.heap.size->X b->β.X b):RelD w' ⟨β.f,X⟩ hp d v:=by
  have him:∀ b,b < w.heap.size->img ⟨β.f,X⟩ hp b->img β hp b:=by
    rintro b hb (h | h)
    · exact .inl (hX b hb h)
    · exact .inr h
  induction h with
  | pv p v h=>exact .pv p v (h.mono hsz (fun b hb _=>hs b hb) him)
  | ptr k off b h hb=>exact .ptr k off b h hb
  | own k sz off len cap b C T m h hb h1 h2 h3 h4=>exact .own k sz off len cap b C T m h hb h1 h2 (by rw [hs b (Array.getElem?_eq_some_iff.1 h3).1]; exact h3) h4
  | ownc k sz off len cap b o C T m h hb h1 h2 h3 h4 h5=>exact .ownc k sz off len cap b o C T m h hb h1 h2 (by rw [hs b (Array.getElem?_eq_some_iff.1 h3).1]; exact h3) h4 h5
  | own0 k sz a h hb ha=>exact .own0 k sz a h hb ha
  | ip cs ad val h1 h2 h3 =>
    refine .ip cs ad val h1 (fun j d hd=>?_) (fun j d hd=>(h3 j d hd).mono hsz (fun b hb _=>hs b hb) him)
    obtain ⟨a,b,c⟩:=h2 j d hd
    exact ⟨Nat.lt_of_lt_of_le a hsz,fun x=>b (him _ a x),by rw [QcU (w:=w) (a:=at_ ad j) (hs _ a)]; exact c⟩
  | agg ds vs h _ ih=>exact .agg ds vs h ih
  | fn f ds es vs us h h' _ _ ih ih'=>exact .fn f ds es vs us h h' ih ih'
  | tup ds vs h _ ih=>exact .tup ds vs h ih
  | opt c d v _ hf ih=>exact .opt c d v ih hf
  | any v=>exact .any v
theorem HeapRel.out {w w':World} {β:Map} {hp:Qa} {X:Nat->Prop} (hh:HeapRel w β hp) (hsz:w.heap.size<=w'.heap.size) (hs:∀ x,x < w.heap.size->w'.heap[x]? = w.heap[x]?) (hX:∀ b,b < w.heap.size->X b->β.X b) (hb:∀ b,X b->b < w'.heap.size):HeapRel w' ⟨β.f,X⟩ hp:=by
  refine ⟨fun k B b h1 h2 h3=>?_,hh.none,hh.inj,fun k B b h1 h2 h3 hx=>?_,hb⟩
  · obtain ⟨C,g1,g2,g3⟩:=hh.blk k B b h1 h2 h3
    exact ⟨C,by rw [hs b (Array.getElem?_eq_some_iff.1 g1).1]; exact g1,g2,fun i d hd=>⟨(g3 i d hd).1,(g3 i d hd).2.out hsz hs hX⟩⟩
  · exact hh.avoid k B b h1 h2 h3 (hX b (QbK hh ⟨k,B,h1,h2,h3⟩) hx)
theorem Resv.out' {w w':World} {β:Map} {hp:Qa} {X:Nat->Prop} {d:DV} {B:Blk} {v:Value} {b:Nat} (h:Resv w β hp d B v b) (hsz:w.heap.size<=w'.heap.size) (hs:∀ x,x < w.heap.size->w'.heap[x]? = w.heap[x]?) (hX:∀ b,b < w.heap.size->X b->β.X b) (hXb:X b):Resv w' ⟨β.f,X⟩ hp d B v b:=by
  obtain ⟨h1,h2,h3,C,c1,c2,c3,c4⟩:=h
  exact ⟨h1,h2,hXb,C,by rw [hs b (Array.getElem?_eq_some_iff.1 c1).1]; exact c1,c2,fun i x hx=>⟨(c3 i x hx).1,(c3 i x hx).2.out hsz hs hX⟩,c4⟩
theorem CInv.reserve {O:Org} {hid:Nat->Prop} {rb:Nat->Option Nat} {β:Map} {S:St} {a:Act} {w w':World} {b j t:Nat} {v:Value} (h:CInv O hid rb β S a w) (hos:w'.os = w.os) (hta:w'.tape = w.tape) (hou:w'.output = w.output) (hsz:w.heap.size<=w'.heap.size) (hb:w.heap.size<=b) (hbl:b < w'.heap.size)
    (hs:∀ x,x < w.heap.size->w'.heap[x]? = w.heap[x]?) (hj:rb j = none) (ht:t < S.nt):CInv O (fun u=>hid u\/u = t) (fun i=>if i = j then some b else rb i) ⟨β.f,fun x=>β.X x\/x = b⟩ S (a.put (some t) v) w':=by
  have hX:∀ x,x < w.heap.size->(β.X x\/x = b)->β.X x:=fun x hx h=>h.elim id (fun e=>by omega)
  have hrb:∀ i c,rb i = some c->c < w.heap.size:=fun i c hc=>h.heap.bound c ((h.sub c).2 (.inr ⟨i,hc⟩))
  refine ⟨h.defers,by rw [Qcd]; exact h.size,fun u hu=>?_,h.heap.out hsz hs hX (fun x hx=>hx.elim (fun hx=>Nat.lt_of_lt_of_le (h.heap.bound x hx) hsz) (fun e=>by omega)),?_,h.base,fun x=>?_,fun i k c hi hk=>?_,fun i c hc=>?_⟩
  · have hne:¬ (some t = some u):=fun e=>hu (.inr (Option.some.inj e).symm)
    rw [Qbh (fun u hu=>by cases hu; rw [h.size]; exact ht),if_neg hne]
    exact (h.tm u (fun x=>hu (.inl x))).out hsz hs hX
  · have e:Evo w ⟨β.f,O.β.X⟩ S.hp w' ⟨β.f,O.β.X⟩ S.hp:=⟨hos,hta,hou,hsz,Nat.le_refl _,fun _ _=>rfl,fun x hx _=>hs x hx,fun x C T m hx=>⟨C,m,by rw [hs x (Array.getElem?_eq_some_iff.1 hx).1]; exact hx,rfl⟩,fun _ _ h=>h,rfl⟩
    exact h.evo.trans e
  · show (β.X x\/x = b) ↔ _
    rw [h.sub x]
    constructor
    · rintro ((h1 | ⟨i,hi⟩) | rfl)
      · exact .inl h1
      · refine .inr ⟨i,?_⟩
        show (if i = j then some b else rb i) = some x
        rw [if_neg (by intro e; subst e; rw [hj] at hi; cases hi)]; exact hi
      · exact .inr ⟨j,by simp⟩
    · rintro (h1 | ⟨i,hi⟩)
      · exact .inl (.inl h1)
      · by_cases e:i = j
        · rw [if_pos e] at hi; cases hi; exact .inr rfl
        · rw [if_neg e] at hi; exact .inl (.inr ⟨i,hi⟩)
  · by_cases e1:i = j<;>by_cases e2:k = j
    · rw [e1,e2]
    · rw [if_pos e1] at hi
      rw [if_neg e2] at hk
      cases hi
      have:=hrb k b hk; omega
    · rw [if_neg e1] at hi
      rw [if_pos e2] at hk
      cases hk
      have:=hrb i b hi; omega
    · rw [if_neg e1] at hi
      rw [if_neg e2] at hk
      exact h.rinj i k c hi hk
  · by_cases e:i = j
    · rw [if_pos e] at hc
      cases hc
      refine ⟨Nat.le_trans h.evo.size hb,fun hx=>?_⟩
      have:=h.heap.bound b ((h.sub b).2 (.inl hx)); omega
    · rw [if_neg e] at hc; exact h.rnew i c hc
theorem CInv.adopt {O:Org} {hid:Nat->Prop} {rb:Nat->Option Nat} {β:Map} {S:St} {a:Act} {w:World} {b j t:Nat} {d:DV} {B:Blk} (h:CInv O hid rb β S a w) (hj:rb j = some b) (r:Resv w β S.hp d B (a.tmps.getD t undef) b) :
    CInv O (fun u=>hid u/\u ≠ t) (fun i=>if i = j then none else rb i) ⟨(ext β S.hp.length (some b)).f,fun x=>β.X x/\x ≠ b⟩ ((S.at (S.hp ++ [B])).put (some t) (d.ren fun _=>S.hp.length)) a w:=by
  obtain ⟨a1,a2,a3,a4,a5⟩:=V.adopt h.heap r
  obtain ⟨n1,n2⟩:=h.rnew j b hj
  refine ⟨h.defers,h.size,fun u hu=>?_,a1,?_,h.base,fun x=>?_,fun i k c hi hk=>?_,fun i c hc=>?_⟩
  · rw [Qau]
    by_cases e:some t = some u
    · cases e; rw [if_pos rfl]; exact a3
    · rw [if_neg e]
      exact a2 _ _ (h.tm u (fun x=>hu ⟨x,fun e'=>e (by rw [e'])⟩))
  · have e:=h.evo
    refine ⟨e.os,e.tape,e.output,e.size,by show _<=(S.hp ++ [B]).length; have:=e.len; simp; omega,fun k hk=>(a5 k (Nat.lt_of_lt_of_le hk e.len)).trans (e.beta k hk),e.same,e.shape,fun x hx hl=>?_,rfl⟩
    rcases a4 x hl with h1 | h1
    · exact e.im x hx h1
    · omega
  · show (β.X x/\x ≠ b) ↔ _
    rw [h.sub x]
    constructor
    · rintro ⟨h1 | ⟨i,hi⟩,hne⟩
      · exact .inl h1
      · refine .inr ⟨i,?_⟩
        show (if i = j then none else rb i) = some x
        rw [if_neg (by intro e; subst e; rw [hj] at hi; cases hi; exact hne rfl)]; exact hi
    · rintro (h1 | ⟨i,hi⟩)
      · exact ⟨.inl h1,fun e=>n2 (e ▸ h1)⟩
      · by_cases e:i = j
        · rw [if_pos e] at hi; cases hi
        · rw [if_neg e] at hi
          exact ⟨.inr ⟨i,hi⟩,fun e'=>e (h.rinj i j b (e' ▸ hi) hj)⟩
  · by_cases e1:i = j
    · rw [if_pos e1] at hi; cases hi
    · by_cases e2:k = j
      · rw [if_pos e2] at hk; cases hk
      · rw [if_neg e1] at hi
        rw [if_neg e2] at hk
        exact h.rinj i k c hi hk
  · by_cases e:i = j
    · rw [if_pos e] at hc; cases hc
    · rw [if_neg e] at hc; exact h.rnew i c hc
section
variable {P:Program} {ops:Array Oper}
def Qmc (ops:Array Oper) (fl cs:List Nat) (L:Array Bool) (t:Nat):Prop:=
  (∃ f ∈ fl,L.getD f false = false/\dstOf ops f = some t)\/∃ j ∈ cs,L.getD j false = true/\dstOf ops j = some t
def Pend (P:Program) (ops:Array Oper) (S:St) (f:Nat):Prop :=
  ∃ o t,ops[f]? = some o/\o.dst = some t/\t < S.nt/\∃ G,QA ops.toList S o = some G /\
    ((∃ d,vop P (fun x=>Qm G (S.ev x)) S.hp o.op = some (d,S.hp)/\look S.tm t = Qcn o.guard G d)\/(G = false/\look S.tm t = .tup []))
def Rv (P:Program) (ops:Array Oper) (rb:Nat->Option Nat) (β:Map) (S:St) (a:Act) (w:World) (j:Nat):Prop:=
  ∃ o t d B b,ops[j]? = some o/\o.dst = some t/\rb j = some b/\QtD P (fun x=>Qm true (S.ev x)) o.op = some (d,B)/\Resv w β S.hp d B (a.tmps.getD t undef) b
structure MInv (P:Program) (ops:Array Oper) (O:Org) (fl:List Nat) (rs:List Seg) (rb:Nat->Option Nat) (β:Map) (S:St) (L:Array Bool) (a:Act) (w:World):Prop where
  lsz:L.size = ops.size
  core:CInv O (Qmc ops fl (rs.flatMap (·.C)) L) rb β S a w
  cov:∀ i,i < ops.size->L.getD i false = true\/i ∈ fl ++ rs.flatMap (·.H)\/i ∈ rs.map (·.c)\/i ∈ rs.flatMap (·.C)
  sp:∀ c ∈ rs.map (·.c),L.getD c false = false
  flo:∀ f ∈ rs.flatMap (·.H),L.getD f false = false
  clo:∀ i o,ops[i]? = some o->L.getD i false = true->∀ e ∈ o.after,Region.binds .any e = true->L.getD e.on false = true
  rv:∀ j ∈ rs.flatMap (·.C),L.getD j false = true->Rv P ops rb β S a w j
  rbo:∀ j b,rb j = some b->j ∈ rs.flatMap (·.C)/\L.getD j false = true
  pend:∀ f ∈ fl,L.getD f false = false->Pend P ops S f
theorem QcV {j i:Nat} {o:Oper} (hj:ops[j]? = some o) {L:Array Bool} (hd:∀ e ∈ o.after,Region.binds .any e = true->L.getD e.on false = true) (hb:bnd ops j i = true):L.getD i false = true:=by
  simp only [bnd,hj,List.any_eq_true,Bool.and_eq_true,beq_iff_eq] at hb
  obtain ⟨e,e1,e2,e3⟩:=hb
  rw [<- e3]; exact hd e (by simpa using e1) e2
theorem Q8 {j:Nat} {o:Oper} (hj:ops[j]? = some o) {t:Nat} (ht:t ∈ o.looksAt ops):QjN ops j t = true:=by
  simp [QjN,Qhy,hj,ht]
theorem Qnj {j:Nat} {o:Oper} (hj:ops[j]? = some o) {t:Nat} (ht:t ∈ o.looksAt ops):Qhy ops j t = true:=by
  simp [Qhy,hj,ht]
theorem QaE {j t:Nat} (ht:dstOf ops j = some t):QjN ops j t = true:=by simp [QjN,ht]
theorem QeX {o:Oper} (h:QeT o = true) (ev:Operand->DV):Q6 o.op = true/\Ql ev o.op = none/\(QbM ev o.op).2 = false:=by
  unfold QeT at h
  simp only [Bool.and_eq_true] at h
  refine ⟨h.1,?_,?_⟩
  · have h1:=h.1
    cases hop:o.op with
    | call c =>
      rw [hop] at h1
      simp only [Q6] at h1
      simp only [Ql]
      split
      · rename_i f hc; rw [hc] at h1; simp at h1
      · rfl
    | _=>rfl
  · have h2:=h.2
    cases hop:o.op with
    | store T x y=>rw [hop] at h2; simp at h2
    | _=>rfl
theorem QkY {o:Oper} (h:Qeo o = true) (ev:Operand->DV):Ql ev o.op = none/\o.guard = none:=by
  unfold Qeo at h
  simp only [Bool.and_eq_true] at h
  refine ⟨?_,by simpa using h.1⟩
  have h2:=h.2
  split at h2
  · rename_i ho; rw [ho]; rfl
  · rename_i ho; rw [ho]; rfl
  · rename_i ho; rw [ho]; rfl
  · simp at h2
theorem seen {fl:List Nat} {rs:List Seg} {Fl Sp Cr:List Nat} (g:Glob ops Fl Sp Cr) (hFl:∀ f ∈ fl,f ∈ Fl)
    (hcd:∀ j ∈ rs.flatMap (·.C),∃ o t,ops[j]? = some o/\Qeo o = true/\o.dst = some t/\∀ i,i < ops.size->i ≠ j->QjN ops i t = true->i ∈ rs.map (·.c)) {L:Array Bool} {i t:Nat} {o:Oper} (hi:ops[i]? = some o)
    (hd:∀ e ∈ o.after,Region.binds .any e = true->L.getD e.on false = true) (hu:QjN ops i t = true) (hns:¬ i ∈ rs.map (·.c)) (hself:L.getD i false = false) (hnf:i ∈ fl->dstOf ops i ≠ some t):¬ Qmc ops fl (rs.flatMap (·.C)) L t:=by
  have hilt:i < ops.size:=(Array.getElem?_eq_some_iff.1 hi).1
  rintro (⟨f,hf,hL,ht⟩ | ⟨j,hj,hL,ht⟩)
  · obtain ⟨of,tf,h1,_,h2,_,h3⟩:=g.fl f (hFl f hf)
    have:tf = t:=by simp only [dstOf,h1] at ht; rw [h2] at ht; exact Option.some.inj ht
    subst this
    by_cases e:i = f
    · subst e; exact hnf hf ht
    · have:=QcV hi hd (h3 i hilt e hu)
      rw [hL] at this; cases this
  · obtain ⟨oj,tj,h1,_,h2,h3⟩:=hcd j hj
    have:tj = t:=by simp only [dstOf,h1] at ht; rw [h2] at ht; exact Option.some.inj ht
    subst this
    by_cases e:i = j
    · subst e; rw [hself] at hL; cases hL
    · exact hns (h3 i hilt e hu)
end
end Go.V

