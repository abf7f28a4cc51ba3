/-
  Contracts of functions and plain laws. No condition.
-/
import Derived.Test.YtepcgifhpjapkaaGreatV2
import Derived.Lib.Builder
import Derived.Lib.Overlaps
import Derived.MapKept
set_option linter.unusedSimpArgs false
set_option linter.unusedVariables false
set_option maxRecDepth 100000
set_option maxHeartbeats 8000000
namespace Go.V
section
variable {P:Program} {ops:Array Oper}
structure Stat (ops:Array Oper) (Fl Sp Cr:List Nat) (fl:List Nat) (rs:List Seg):Prop where
  g:Glob ops Fl Sp Cr
  hFl:Fl = fl ++ rs.flatMap (·.H)
  hSp:∃ dn,Sp = dn ++ rs.map (·.c)
  hCr:∃ dn,Cr = dn ++ rs.flatMap (·.C)
  ok:Qbr ops fl rs = true
variable {Fl Sp Cr fl:List Nat} {rs:List Seg}
theorem Stat.fl_sub (s:Stat ops Fl Sp Cr fl rs):∀ f ∈ fl,f ∈ Fl:=fun f hf=>by rw [s.hFl]; exact List.mem_append_left _ hf
theorem Stat.sp_sub (s:Stat ops Fl Sp Cr fl rs):∀ c ∈ rs.map (·.c),c ∈ Sp:=fun c hc=>by obtain ⟨dn,h⟩:=s.hSp; rw [h]; exact List.mem_append_right _ hc
theorem Stat.cr_sub (s:Stat ops Fl Sp Cr fl rs):∀ c ∈ rs.flatMap (·.C),c ∈ Cr:=fun c hc=>by obtain ⟨dn,h⟩:=s.hCr; rw [h]; exact List.mem_append_right _ hc
theorem QcE:∀ {fl:List Nat} {rs:List Seg},Qbr ops fl rs = true->∀ j ∈ rs.flatMap (·.C),∃ o t,ops[j]? = some o/\Qeo o = true/\o.dst = some t/\∀ i,i < ops.size->i ≠ j->QjN ops i t = true->i ∈ rs.map (·.c)
  | fl,[],_,j,hj=>by simp at hj
  | fl,s :: r,h,j,hj=>by
    simp only [Qbr,Bool.and_eq_true] at h
    rw [List.flatMap_cons,List.mem_append] at hj
    rcases hj with hj | hj
    · exact (Qc5 h.1).cd j hj
    · obtain ⟨o,t,h1,h2,h3,h4⟩:=QcE h.2 j hj
      exact ⟨o,t,h1,h2,h3,fun i a b c=>by rw [List.map_cons]; exact List.mem_cons_of_mem _ (h4 i a b c)⟩
theorem Qj3:∀ {fl:List Nat} {rs:List Seg},Qbr ops fl rs = true->∀ f ∈ rs.flatMap (·.H),(∃ c ∈ rs.map (·.c),bnd ops f c = true)\/∃ g ∈ rs.flatMap (·.H),bnd ops f g = true
  | fl,[],_,j,hj=>by simp at hj
  | fl,s :: r,h,f,hf=>by
    simp only [Qbr,Bool.and_eq_true] at h
    rw [List.flatMap_cons,List.mem_append] at hf
    rcases hf with hf | hf
    · rcases (Qc5 h.1).hh f hf with h1 | ⟨g,h1,h2⟩
      · exact .inl ⟨s.c,by simp,h1⟩
      · exact .inr ⟨g,by rw [List.flatMap_cons]; exact List.mem_append_left _ h1,h2⟩
    · rcases Qj3 h.2 f hf with ⟨c,h1,h2⟩ | ⟨g,h1,h2⟩
      · exact .inl ⟨c,by rw [List.map_cons]; exact List.mem_cons_of_mem _ h1,h2⟩
      · exact .inr ⟨g,by rw [List.flatMap_cons]; exact List.mem_append_right _ h1,h2⟩
theorem Qj4:∀ {fl:List Nat} {s:Seg} {r:List Seg},Qbr ops fl (s :: r) = true->∀ c ∈ r.map (·.c),∃ c' ∈ (s :: r).map (·.c),bnd ops c c' = true
  | fl,s,[],_,c,hc=>by simp at hc
  | fl,s,s' :: r',h,c,hc=>by
    simp only [Qbr,Bool.and_eq_true] at h
    rw [List.map_cons,List.mem_cons] at hc
    rcases hc with rfl | hc
    · exact ⟨s.c,by simp,(Qc5 h.1).ch s' r' rfl⟩
    · have h2:Qbr ops (fl ++ s.H) (s' :: r') = true:=by simp only [Qbr,Bool.and_eq_true]; exact h.2
      obtain ⟨c',h3,h4⟩:=Qj4 h2 c hc
      exact ⟨c',by rw [List.map_cons]; exact List.mem_cons_of_mem _ h3,h4⟩
theorem QiI {L:Array Bool} {j:Nat} (h:j < L.size):(L.setIfInBounds j true).getD j false = true:=by simp [h]
theorem QoQ {Q:Exit->Act->World->Prop} {O:Org} {rb:Nat->Option Nat} {β:Map} {S:St} {L:Array Bool} {a:Act} {w:World} (st:Stat ops Fl Sp Cr fl rs) (h:MInv P ops O fl rs rb β S L a w) {f:Nat} {o:Oper} (hf:f ∈ fl) (ho:ops[f]? = some o) (hL:L.getD f false = false)
    (hd:∀ e ∈ o.after,Region.binds .any e = true->L.getD e.on false = true) {next:Act->World->Prop} (hn:∀ β' a' w',MInv P ops O fl rs rb β' S (L.setIfInBounds f true) a' w'->next a' w') :
    if Region.wanted o (yielded ops a.tmps) then o.wp P a w next Q\/(o.asks P a w/\LetsOut Q) else next (a.put o.dst undef) w:=by
  have hflt:f < ops.size:=(Array.getElem?_eq_some_iff.1 ho).1
  obtain ⟨o1,t,e1,hfl,hdst,hown,huse⟩:=st.g.fl f (st.fl_sub f hf)
  rw [ho] at e1; cases e1
  obtain ⟨o2,t2,e2,hdst2,htn,G,hG,hval⟩:=h.pend f hf hL
  rw [ho] at e2; cases e2
  rw [hdst] at hdst2; cases hdst2
  have hdo:dstOf ops f = some t:=by simp [dstOf,ho,hdst]
  obtain ⟨nSp,nCr⟩:=st.g.fs f (st.fl_sub f hf)
  have nsp:¬ f ∈ rs.map (·.c):=fun hc=>nSp (st.sp_sub f hc)
  have hcd:=QcE st.ok
  have hseen:∀ u ∈ o.looksAt ops,¬ Qmc ops fl (rs.flatMap (·.C)) L u:=fun u hu=>
    seen st.g st.fl_sub hcd ho hd (Q8 ho hu) nsp hL (fun _ hd'=>by rw [hdo] at hd'; cases hd'; exact hown hu)
  have hs:=h.core.only hseen
  -- the new state of the region
  have fin:∀ β' w' v,Evo w β S.hp w' β' S.hp->HeapRel w' β' S.hp->RelD w' β' S.hp (look S.tm t) v->next (a.put o.dst v) w':=by
    intro β' w' v k1 k2 k3
    refine hn β' _ _ ?_
    have hsz:f < L.size:=by rw [h.lsz]; exact hflt
    have hself:=QiI hsz
    have hoth:∀ i,i ≠ f->(L.setIfInBounds f true).getD i false = L.getD i false:=fun i hi=>getD_set_ne false (Ne.symm hi)
    have hmono:∀ i,L.getD i false = true->(L.setIfInBounds f true).getD i false = true:=fun i hi=>getD_set_true hi
    have step:=h.core.step (dst:=o.dst) k1 k2 k3 (by rw [hdst]; simpa [St.fits] using htn)
    refine ⟨by simp [h.lsz],?_,fun i hi=>(h.cov i hi).imp (hmono i) id,fun c hc=>?_,fun g hg=>?_,fun i oi hi hLi e he hb=>?_,fun j hj hLj=>?_,fun j b hb=>?_,fun g hg hLg=>?_⟩
    · -- the slots
      refine ⟨step.defers,by rw [Qcd]; exact h.core.size,fun u hu=>?_,k2,?_,h.core.base,step.sub,step.rinj,step.rnew⟩
      · by_cases hut:t = u
        · subst hut
          rw [Qbh (fun x hx=>by rw [hdst] at hx; cases hx; rw [h.core.size]; exact htn),if_pos hdst]; exact k3
        · rw [Qbh (fun x hx=>by rw [hdst] at hx; cases hx; rw [h.core.size]; exact htn),if_neg (by rw [hdst]; exact fun e=>hut (Option.some.inj e))]
          refine (h.core.tm u fun hid=>hu ?_).mono k1
          rcases hid with ⟨g,hg,hLg,hgd⟩ | ⟨j,hj,hLj,hjd⟩
          · refine .inl ⟨g,hg,?_,hgd⟩
            by_cases e:g = f
            · subst e; rw [hdo] at hgd; exact absurd (Option.some.inj hgd) hut
            · rw [hoth g e]; exact hLg
          · exact .inr ⟨j,hj,hmono j hLj,hjd⟩
      · have:=step.evo; rw [St.put_hp] at this; exact this
    · rw [hoth c (fun e=>nsp (e ▸ hc))]; exact h.sp c hc
    · rw [hoth g (fun e=>by
        subst e
        have hn:=st.g.nf; rw [st.hFl] at hn
        exact (List.nodup_append.1 hn).2.2 _ hf _ hg rfl)]
      exact h.flo g hg
    · by_cases e':i = f
      · subst e'; rw [ho] at hi; cases hi; exact hmono _ (hd e he hb)
      · rw [hoth i e'] at hLi; exact hmono _ (h.clo i oi hi hLi e he hb)
    · have hjf:j ≠ f:=fun e=>nCr (st.cr_sub j hj |> fun x=>e ▸ x)
      rw [hoth j hjf] at hLj
      obtain ⟨oj,tj,d,B,b,q1,q2,q3,q4,q5⟩:=h.rv j hj hLj
      refine ⟨oj,tj,d,B,b,q1,q2,q3,q4,?_⟩
      have hne:¬ (o.dst = some tj):=fun e=>by
        obtain ⟨oj',tj',r1,_,r2,r3⟩:=hcd j hj
        rw [q1] at r1; cases r1
        rw [q2] at r2; cases r2
        exact nsp (r3 f hflt hjf.symm (QaE (by simp [dstOf,ho,e])))
      rw [Qbh (fun x hx=>by rw [hdst] at hx; cases hx; rw [h.core.size]; exact htn),if_neg hne]
      exact q5.evo h.core.heap k1
    · obtain ⟨r1,r2⟩:=h.rbo j b hb
      exact ⟨r1,hmono j r2⟩
    · have hgf:g ≠ f:=fun e=>by subst e; rw [hself] at hLg; cases hLg
      rw [hoth g hgf] at hLg
      exact h.pend g hg hLg
  have hgd:QA ops.toList (S.only (o.looksAt ops)) o = some G:=by
    rw [Qa6 (S:=S) (fun u hu=>Qej S _ u hu)]; exact hG
  have hw:=QK (ops:=ops) hs hgd
  rw [hw]
  obtain ⟨hk,hcall,hft⟩:=QeX hfl (fun x=>Qm G (S.ev x))
  cases hGv:G with
  | true =>
    subst hGv
    rw [if_pos rfl]
    rcases hval with ⟨d,hv,hl⟩ | ⟨h0,_⟩
    · have hev:∀ x,RelD w β S.hp (Qm true ((S.only (o.looksAt ops)).ev x)) (a.eval x):=fun x=>Qal (hs.ev x) rfl
      have hv':vop P (fun x=>Qm true ((S.only (o.looksAt ops)).ev x)) S.hp o.op = some (d,S.hp):=by
        rw [Qbl (ev:=fun x=>Qm true (S.ev x)) (fun x hx=>by show Qm true _ = Qm true _; rw [QhD (S:=S) (fun u hu=>Qej S _ u hu) x hx])]
        exact hv
      refine .inl (Qbx (QaJ h.core.heap hev (fun _=>rfl) hv') (fun v w' β' k1 k2 k3=>fin β' w' v k1 k2 ?_))
      rw [hl]
      cases o.guard with
      | none=>exact k3
      | some _=>exact .opt true d v (fun _=>k3) (by simp)
    · cases h0
  | false =>
    subst hGv
    rw [if_neg (by simp)]
    refine fin β w undef (Evo.refl _ _ _) h.core.heap ?_
    rcases hval with ⟨d,_,hl⟩ | ⟨_,hl⟩
    · rw [hl]
      cases hgd':o.guard with
      | none=>simp [QA,hgd'] at hG
      | some _=>exact .opt false d undef (by simp) (fun _=>rfl)
    · rw [hl]; exact .tup [] #[] rfl (by simp)
theorem QsU {Q:Exit->Act->World->Prop} {O:Org} {rb:Nat->Option Nat} {β:Map} {S:St} {L:Array Bool} {a:Act} {w:World} (st:Stat ops Fl Sp Cr fl rs) (h:MInv P ops O fl rs rb β S L a w) {j:Nat} {o:Oper} (hj:j ∈ rs.flatMap (·.C)) (ho:ops[j]? = some o) (hL:L.getD j false = false)
    (hd:∀ e ∈ o.after,Region.binds .any e = true->L.getD e.on false = true) (hfit:S.fits o.dst = true) (hc:Qfk P (fun x=>Qm true (S.ev x)) o.op) {next:Act->World->Prop} (hn:∀ rb' β' a' w',MInv P ops O fl rs rb' β' S (L.setIfInBounds j true) a' w'->next a' w') :
    if Region.wanted o (yielded ops a.tmps) then o.wp P a w next Q\/(o.asks P a w/\LetsOut Q) else next (a.put o.dst undef) w:=by
  have hjlt:j < ops.size:=(Array.getElem?_eq_some_iff.1 ho).1
  have hcd:=QcE st.ok
  obtain ⟨o1,t,e1,hcr,hdst,huse⟩:=hcd j hj
  rw [ho] at e1; cases e1
  have hdo:dstOf ops j = some t:=by simp [dstOf,ho,hdst]
  have htn:t < S.nt:=by rw [hdst] at hfit; simpa [St.fits] using hfit
  have nSp:¬ j ∈ Sp:=fun hs=>st.g.sc j hs (st.cr_sub j hj)
  have nsp:¬ j ∈ rs.map (·.c):=fun hs=>nSp (st.sp_sub j hs)
  have nFl:¬ j ∈ Fl:=fun hf=>(st.g.fs j hf).2 (st.cr_sub j hj)
  have hseen:∀ u ∈ o.looksAt ops,¬ Qmc ops fl (rs.flatMap (·.C)) L u:=fun u hu=>
    seen st.g st.fl_sub hcd ho hd (Q8 ho hu) nsp hL (fun hf=>absurd (st.fl_sub j hf) nFl)
  have hs:=h.core.only hseen
  obtain ⟨_,hgn⟩:=QkY hcr (fun x=>S.ev x)
  have hgd:QA ops.toList (S.only (o.looksAt ops)) o = some true:=by simp [QA,hgn]
  have hw:=QK (ops:=ops) hs hgd
  rw [hw,if_pos rfl]
  have hev:∀ x ∈ o.op.operands.toList,RelD w β S.hp (Qm true (S.ev x)) (a.eval x):=fun x hx=>by
    have:=hs.ev x
    rw [QhD (S:=S) (fun u hu=>Qej S _ u hu) x hx] at this
    exact Qal this rfl
  obtain ⟨d,B,v,w',b,c1,c2,c3,c4,c5,c6,c7,c8,c9,c10⟩:=QoW (β:=β) h.core.heap hev (fun _=>rfl) hc
  have hrb:rb j = none:=by
    cases hr:rb j with
    | none=>rfl
    | some x=>have:=(h.rbo j x hr).2; rw [hL] at this; cases this
  have core:=h.core.reserve (v:=v) c3 c4 c5 c6 c7 c8 c9 hrb htn
  have hnext:next (a.put o.dst v) w':=by
    rw [hdst]
    refine hn (fun i=>if i = j then some b else rb i) ⟨β.f,fun x=>β.X x\/x = b⟩ _ _ ?_
    have hsz:j < L.size:=by rw [h.lsz]; exact hjlt
    have hself:=QiI hsz
    have hoth:∀ i,i ≠ j->(L.setIfInBounds j true).getD i false = L.getD i false:=fun i hi=>getD_set_ne false (Ne.symm hi)
    have hmono:∀ i,L.getD i false = true->(L.setIfInBounds j true).getD i false = true:=fun i hi=>getD_set_true hi
    refine ⟨by simp [h.lsz],core.hide fun u hu=>?_,fun i hi=>(h.cov i hi).imp (hmono i) id,fun c hc=>?_,fun g hg=>?_,fun i oi hi hLi e he hb=>?_,fun i hi hLi=>?_,fun i b' hb'=>?_,fun g hg hLg=>?_⟩
    · rcases hu with (⟨f,hf,hLf,hfd⟩ | ⟨i,hi,hLi,hid⟩) | rfl
      · exact .inl ⟨f,hf,by rw [hoth f (fun e=>nFl (e ▸ st.fl_sub f hf))]; exact hLf,hfd⟩
      · exact .inr ⟨i,hi,hmono i hLi,hid⟩
      · exact .inr ⟨j,hj,hself,hdo⟩
    · rw [hoth c (fun e=>nsp (e ▸ hc))]; exact h.sp c hc
    · rw [hoth g (fun e=>nFl (by rw [<- e,st.hFl]; exact List.mem_append_right _ hg))]; exact h.flo g hg
    · by_cases e':i = j
      · subst e'; rw [ho] at hi; cases hi; exact hmono _ (hd e he hb)
      · rw [hoth i e'] at hLi; exact hmono _ (h.clo i oi hi hLi e he hb)
    · by_cases e:i = j
      · subst e
        exact ⟨o,t,d,B,b,ho,hdst,by simp,c1,by rw [Qbh (fun x hx=>by cases hx; rw [h.core.size]; exact htn),if_pos rfl]; exact c10⟩
      · rw [hoth i e] at hLi
        obtain ⟨oi,ti,di,Bi,bi,q1,q2,q3,q4,q5⟩:=h.rv i hi hLi
        refine ⟨oi,ti,di,Bi,bi,q1,q2,by show (if i = j then some b else rb i) = some bi; rw [if_neg e]; exact q3,q4,?_⟩
        have hne:¬ (some t = some ti):=fun et=>by
          cases et
          obtain ⟨oi',ti',r1,_,r2,r3⟩:=hcd i hi
          rw [q1] at r1; cases r1
          rw [q2] at r2; cases r2
          exact nsp (r3 j hjlt (Ne.symm e) (QaE hdo))
        rw [Qbh (fun x hx=>by cases hx; rw [h.core.size]; exact htn),if_neg hne]
        exact q5.out' c6 c9 (fun x hx hX=>hX.elim id (fun e=>by omega)) (.inl q5.out)
    · by_cases e:i = j
      · subst e; exact ⟨hj,hself⟩
      · have hb':(if i = j then some b else rb i) = some b':=hb'
        rw [if_neg e] at hb'
        obtain ⟨r1,r2⟩:=h.rbo i b' hb'
        exact ⟨r1,hmono i r2⟩
    · have hgj:g ≠ j:=fun e=>nFl (e ▸ st.fl_sub g hg)
      rw [hoth g hgj] at hLg
      exact h.pend g hg hLg
  refine .inl ?_
  unfold Oper.wp
  rcases c2 with c2 | ⟨c2,rfl⟩
  · rw [c2]; exact hnext
  · rw [c2]; exact hnext
end
end Go.V
namespace Go.V
section
variable {P:Program} {ops:Array Oper}
theorem QdK (all:List Oper):∀ (a b:List Nat),pick all (a ++ b) = pick all a ++ pick all b
  | [],_=>rfl
  | i :: r,b=>by
    simp only [List.cons_append,pick]
    cases all[i]? with
    | none=>exact QdK all r b
    | some o=>simp only [List.cons_append]; rw [QdK all r b]
theorem QfQ {all:List Oper} {i:Nat} {o:Oper} (h:all[i]? = some o):∀ {l:List Nat},i ∈ l->o ∈ pick all l
  | [],hm=>by simp at hm
  | a :: r,hm=>by
    simp only [pick]
    rcases List.mem_cons.1 hm with rfl | hm
    · rw [h]; exact List.mem_cons_self
    · cases all[a]? with
      | none=>exact QfQ h hm
      | some o'=>exact List.mem_cons_of_mem _ (QfQ h hm)
theorem QbQ {i:Nat} {o:Oper} (h:ops[i]? = some o):ops.toList[i]? = some o:=by simpa using h
theorem QoN {ev ev':Operand->DV} {o:Op} (h:∀ x ∈ o.operands.toList,ev' x = ev x):QbM ev' o = QbM ev o:=by
  cases o<;>first | rfl | (simp only [QbM]; rw [h _ (by simp [Op.operands])])
theorem Qic {ev ev':Operand->DV} {o:Op} (h:∀ x ∈ o.operands.toList,ev' x = ev x):QtD P ev' o = QtD P ev o:=by
  unfold QtD; rw [Qbl h]
theorem Pend.move {S S2:St} {f:Nat} {o:Oper} {t:Nat} (h:Pend P ops S f) (ho:ops[f]? = some o) (hd:o.dst = some t) (hfl:QeT o = true) (hl:∀ u ∈ o.looksAt ops,look S2.tm u = look S.tm u) (ht:look S2.tm t = look S.tm t) (hn:S2.nt = S.nt)
    (hh:∀ G,QA ops.toList S o = some G->∀ k ∈ (QbM (fun x=>Qm G (S.ev x)) o.op).1,S2.hp[k]? = S.hp[k]?):Pend P ops S2 f:=by
  obtain ⟨o1,t1,e1,e2,e3,G,e4,e5⟩:=h
  rw [ho] at e1; cases e1
  rw [hd] at e2; cases e2
  refine ⟨o,t,ho,hd,by rw [hn]; exact e3,G,by rw [Qa6 hl]; exact e4,?_⟩
  rcases e5 with ⟨d,h1,h2⟩ | ⟨h1,h2⟩
  · refine .inl ⟨d,?_,by rw [ht]; exact h2⟩
    rw [Qbl (ev:=fun x=>Qm G (S.ev x)) (fun x hx=>by show Qm G _ = Qm G _; rw [QhD hl x hx])]
    obtain ⟨k1,_,k3⟩:=QeX hfl (fun x=>Qm G (S.ev x))
    rcases Qcw (hp':=S2.hp) k1 (hh G e4) h1 with ⟨_,_,r⟩ | ⟨r,_⟩
    · exact r
    · rw [k3] at r; cases r
  · exact .inr ⟨h1,by rw [ht]; exact h2⟩
theorem QgM {K:St->Prop}:∀ {l:List Nat} {S:St},(∀ f ∈ l,∃ o t,ops[f]? = some o/\QeT o = true/\o.dst = some t/\¬ t ∈ o.looksAt ops)->(l.Pairwise fun f g=>∀ t,dstOf ops g = some t->QjN ops f t = false)->Qag P ops.toList (pick ops.toList l) K S ->
    ∃ S2,K S2/\S2.hp = S.hp/\S2.nt = S.nt/\S2.base = S.base/\(∀ t,(∀ f ∈ l,dstOf ops f ≠ some t)->look S2.tm t = look S.tm t)/\∀ f ∈ l,Pend P ops S2 f
  | [],S,_,_,h=>⟨S,h,rfl,rfl,rfl,fun _ _=>rfl,by simp⟩
  | f :: l, S,hf,hp,h=>by
    obtain ⟨o,t,ho,hfl,hd,hown⟩:=hf f (by simp)
    have hdo:dstOf ops f = some t:=by simp [dstOf,ho,hd]
    rw [List.pairwise_cons] at hp
    simp only [pick,QbQ ho] at h
    unfold Qag at h
    obtain ⟨hfit,h⟩:=h
    have htn:t < S.nt:=by rw [hd] at hfit; simpa [St.fits] using hfit
    -- QT the first
    have go : ∀ d,Pend P ops (S.put (some t) d) f->Qag P ops.toList (pick ops.toList l) K (S.put (some t) d)->∃ S2,K S2/\S2.hp = S.hp/\S2.nt = S.nt/\S2.base = S.base/\(∀ t,(∀ f' ∈ f :: l,dstOf ops f' ≠ some t)->look S2.tm t = look S.tm t)/\∀ f' ∈ f :: l,Pend P ops S2 f':=by
      intro d hpend hr
      obtain ⟨S2,k1,k2,k3,k4,k5,k6⟩:=QgM (fun g hg=>hf g (List.mem_cons_of_mem _ hg)) hp.2 hr
      refine ⟨S2,k1,k2,k3,k4,fun u hu=>?_,fun g hg=>?_⟩
      · rw [k5 u (fun g hg=>hu g (List.mem_cons_of_mem _ hg)),Qau,if_neg (fun e=>hu f (by simp) (by rw [hdo]; exact e))]
      · rcases List.mem_cons.1 hg with rfl | hg
        · have keep:∀ u,QjN ops g u = true->look S2.tm u = look (S.put (some t) d).tm u:=fun u hu=>k5 u fun g' hg' e=>by
            have:=hp.1 g' hg' u e
            rw [hu] at this; cases this
          exact hpend.move ho hd hfl (fun u hu=>keep u (Q8 ho hu)) (keep t (QaE hdo)) k3 (fun _ _ k _=>by rw [k2])
        · exact k6 g hg
    have hl:∀ d,∀ u ∈ o.looksAt ops,look (S.put (some t) d).tm u = look S.tm u:=fun d u hu=>by rw [Qau,if_neg (fun e=>hown (by cases e; exact hu))]
    split at h
    · exact h.elim
    · rename_i hG
      rw [hd] at h
      exact go _ ⟨o,t,ho,hd,htn,false,by rw [Qa6 (hl _)]; exact hG,.inr ⟨rfl,by rw [Qau,if_pos rfl]⟩⟩ h
    · rename_i hG
      obtain ⟨c1,c2,c3⟩:=QeX hfl (fun x=>Qm true (S.ev x))
      rw [c2] at h
      simp only at h
      split at h
      · rename_i d hp' hv
        have hhp:hp' = S.hp:=by
          rcases Qcw (hp':=S.hp) c1 (fun _ _=>rfl) hv with ⟨_,r,_⟩ | ⟨r,_⟩
          · exact r
          · rw [c3] at r; cases r
        subst hhp
        have hS:(S.at S.hp).put o.dst (Qcn o.guard true d) = S.put (some t) (Qcn o.guard true d):=by rw [hd]; rfl
        rw [hS] at h
        refine go _ ⟨o,t,ho,hd,htn,true,by rw [Qa6 (hl _)]; exact hG,.inl ⟨d,?_,by rw [Qau,if_pos rfl]⟩⟩ h
        rw [Qbl (ev:=fun x=>Qm true (S.ev x)) (fun x hx=>by show Qm true _ = Qm true _; rw [QhD (hl _) x hx])]
        exact hv
      · exact h.elim
theorem Qk9 {O:Org} {K:St->Prop} {fl:List Nat} {L:Array Bool} {a:Act} {w:World} {rest:List Oper} {cs:List Nat}:∀ {l:List Nat} {rb:Nat->Option Nat} {β:Map} {S:St},CInv O (Qmc ops fl (l ++ cs) L) rb β S a w->(∀ j ∈ l ++ cs,L.getD j false = true->Rv P ops rb β S a w j) ->
    (∀ j b,rb j = some b->j ∈ l ++ cs/\L.getD j false = true)->(∀ j ∈ l,L.getD j false = true)->(∀ j ∈ l ++ cs,∃ o t,ops[j]? = some o/\Qeo o = true/\o.dst = some t/\∀ i ∈ l ++ cs,i ≠ j->QjN ops i t = false) ->
    (l ++ cs).Nodup->Qag P ops.toList (pick ops.toList l ++ rest) K S ->
    ∃ rb' β' S',Qag P ops.toList rest K S'/\CInv O (Qmc ops fl cs L) rb' β' S' a w/\(∀ j ∈ cs,L.getD j false = true->Rv P ops rb' β' S' a w j)/\(∀ j b,rb' j = some b->j ∈ cs/\L.getD j false = true)/\S'.nt = S.nt/\(∀ t,(∀ j ∈ l,dstOf ops j ≠ some t)->look S'.tm t = look S.tm t)
  | [],rb,β,S,core,rv,rbo,_,_,_,h=>⟨rb,β,S,h,core,rv,rbo,rfl,fun _ _=>rfl⟩
  | j :: l,rb,β,S,core,rv,rbo,hl,hcd,hnd,h=>by
    obtain ⟨o,t,ho,hcr,hd,huse⟩:=hcd j (by simp)
    have hdo:dstOf ops j = some t:=by simp [dstOf,ho,hd]
    rw [List.cons_append,List.nodup_cons] at hnd
    obtain ⟨o1,t1,d,B,b,e1,e2,e3,e4,e5⟩:=rv j (by simp) (hl j (by simp))
    rw [ho] at e1; cases e1
    rw [hd] at e2; cases e2
    simp only [pick,QbQ ho,List.cons_append] at h
    unfold Qag at h
    obtain ⟨hfit,h⟩:=h
    obtain ⟨hcall,hgn⟩:=QkY hcr (fun x=>Qm true (S.ev x))
    have hG:QA ops.toList S o = some true:=by simp [QA,hgn]
    rw [hG] at h
    simp only at h
    rw [hcall,QoX hcr e4 S.hp] at h
    simp only [hd,hgn,Qcn] at h
    have hne:∀ i ∈ l ++ cs,i ≠ j:=fun i hi e=>hnd.1 (e ▸ hi)
    have hcore:=core.adopt (t:=t) e3 e5
    obtain ⟨a1,a2,a3,a4,a5⟩:=V.adopt core.heap e5
    have hlook:∀ i ∈ l ++ cs,∀ oi,ops[i]? = some oi->∀ u ∈ oi.looksAt ops,look ((S.at (S.hp ++ [B])).put (some t) (d.ren fun _=>S.hp.length)).tm u = look S.tm u:=fun i hi oi hoi u hu=>by
      rw [Qau,if_neg (fun e=>by
        cases e
        have:=huse i (List.mem_cons_of_mem _ hi) (hne i hi)
        rw [Q8 hoi hu] at this; cases this)]
      rfl
    obtain ⟨rb',β',S',k1,k2,k3,k4,k5,k6⟩:=Qk9 (l:=l) (cs:=cs) (rest:=rest) (K:=K)
      (hcore.hide fun u hu=>by
        rcases hu with ⟨hu | ⟨i,hi,hLi,hid⟩,hut⟩
        · exact .inl hu
        · refine .inr ⟨i,?_,hLi,hid⟩
          rcases List.mem_cons.1 hi with rfl | hi
          · rw [hdo] at hid; exact absurd (Option.some.inj hid).symm hut
          · exact hi)
      (fun i hi hLi=>by
        obtain ⟨oi,ti,di,Bi,bi,q1,q2,q3,q4,q5⟩:=rv i (List.mem_cons_of_mem _ hi) hLi
        refine ⟨oi,ti,di,Bi,bi,q1,q2,by show (if i = j then none else rb i) = some bi; rw [if_neg (hne i hi)]; exact q3,?_,?_⟩
        · rw [Qic (ev:=fun x=>Qm true (S.ev x)) (fun x hx=>by show Qm true _ = Qm true _; rw [QhD (hlook i hi oi q1) x hx])]
          exact q4
        · obtain ⟨r1,r2,r3,C,r4,r5,r6,r7⟩:=q5
          exact ⟨r1,r2,⟨r3,fun e=>hne i hi (core.rinj i j b (e ▸ q3) e3)⟩,C,r4,r5,fun k x hx=>⟨(r6 k x hx).1,a2 _ _ (r6 k x hx).2⟩,r7⟩)
      (fun i c hc=>by
        have hc:(if i = j then none else rb i) = some c:=hc
        by_cases e:i = j
        · rw [if_pos e] at hc; cases hc
        · rw [if_neg e] at hc
          obtain ⟨r1,r2⟩:=rbo i c hc
          rcases List.mem_cons.1 r1 with rfl | r1
          · exact absurd rfl e
          · exact ⟨r1,r2⟩)
      (fun i hi=>hl i (List.mem_cons_of_mem _ hi))
      (fun i hi=>by
        obtain ⟨oi,ti,q1,q2,q3,q4⟩:=hcd i (List.mem_cons_of_mem _ hi)
        exact ⟨oi,ti,q1,q2,q3,fun k hk hki=>q4 k (List.mem_cons_of_mem _ hk) hki⟩)
      hnd.2 h
    refine ⟨rb',β',S',k1,k2,k3,k4,k5,fun u hu=>?_⟩
    rw [k6 u (fun i hi=>hu i (List.mem_cons_of_mem _ hi)),Qau,if_neg (fun e=>hu j (by simp) (by rw [hdo]; exact e))]
    rfl
theorem QcM {Fl Sp Cr:List Nat} (g:Glob ops Fl Sp Cr):∀ {l:List Nat},(∀ f ∈ l,f ∈ Fl)->QgL ops l = true->l.Nodup->l.Pairwise fun f g=>∀ t,dstOf ops g = some t->QjN ops f t = false
  | [],_,_,_=>List.Pairwise.nil
  | f :: r,hm,hi,hn=>by
    simp only [QgL,Bool.and_eq_true] at hi
    rw [List.nodup_cons] at hn
    refine List.pairwise_cons.2 ⟨fun x hx t ht=>?_,QcM g (fun x hx=>hm x (List.mem_cons_of_mem _ hx)) hi.2 hn.2⟩
    obtain ⟨o,u,h1,_,h2,_,h3⟩:=g.fl x (hm x (List.mem_cons_of_mem _ hx))
    have:u = t:=by simp only [dstOf,h1] at ht; rw [h2] at ht; exact Option.some.inj ht
    subst this
    cases hu:QjN ops f u with
    | false=>rfl
    | true =>
      obtain ⟨of,_,hof,_⟩:=g.fl f (hm f (by simp))
      have:=h3 f (Array.getElem?_eq_some_iff.1 hof).1 (fun e=>hn.1 (e ▸ hx)) hu
      have hb:=List.all_eq_true.1 hi.1 x hx
      rw [this] at hb; cases hb
end
end Go.V
namespace Go.V
section
variable {P:Program} {ops:Array Oper} {Fl Sp Cr fl:List Nat}
theorem QhV {hp hp1:Qa}:∀ {l:List Nat},Qgi hp hp1 l->∀ k ∈ l,hp1[k]? = hp[k]?
  | [],_,k,hk=>by simp at hk
  | a :: r,h,k,hk=>by
    rcases List.mem_cons.1 hk with rfl | hk
    · exact h.1
    · exact QhV h.2 k hk
theorem Qk8 {all:List Oper} {S S1:St}:∀ {l:List Oper},QhH all S S1 l->∀ o ∈ l,QnD S S1 o (QA all S1 o)
  | [],_,o,ho=>by simp at ho
  | a :: r,h,o,ho=>by
    rcases List.mem_cons.1 ho with rfl | ho
    · exact h.1
    · exact Qk8 h.2 o ho
theorem QgW {S:St}:∀ {l:List Oper},Qch P S l->∀ o ∈ l,S.fits o.dst = true/\Qfk P (fun x=>Qm true (S.ev x)) o.op
  | [],_,o,ho=>by simp at ho
  | a :: r,h,o,ho=>by
    rcases List.mem_cons.1 ho with rfl | ho
    · exact h.1
    · exact QgW h.2 o ho
theorem Qn1 {Q:Exit->Act->World->Prop} {O:Org} {K:St->Prop} {s:Seg} {r:List Seg} {rb:Nat->Option Nat} {β:Map} {S:St} {L:Array Bool} {a:Act} {w:World} (st:Stat ops Fl Sp Cr fl (s :: r)) (h:MInv P ops O fl (s :: r) rb β S L a w) {o:Oper} (ho:ops[s.c]? = some o)
    (hd:∀ e ∈ o.after,Region.binds .any e = true->L.getD e.on false = true) (hv:vsp P ops.toList (s :: r) K S) {next:Act->World->Prop}
    (hn:∀ rb' β' S' a' w',MInv P ops O (fl ++ s.H) r rb' β' S' (L.setIfInBounds s.c true) a' w'->vsp P ops.toList r K S'->next a' w') :
    if Region.wanted o (yielded ops a.tmps) then o.wp P a w next Q\/(o.asks P a w/\LetsOut Q) else next (a.put o.dst undef) w:=by
  have hclt:s.c < ops.size:=(Array.getElem?_eq_some_iff.1 ho).1
  have hL:L.getD s.c false = false:=h.sp s.c (by simp)
  have hsegs:=st.ok
  simp only [Qbr,Bool.and_eq_true] at hsegs
  have so:=Qc5 hsegs.1
  have hcd:=QcE st.ok
  have hcdr:=QcE hsegs.2
  have hcs:(s :: r).flatMap (·.C) = s.C ++ r.flatMap (·.C):=List.flatMap_cons
  have hHs:(s :: r).flatMap (·.H) = s.H ++ r.flatMap (·.H):=List.flatMap_cons
  have hSpn:((s :: r).map (·.c)).Nodup:=by obtain ⟨dn,e⟩:=st.hSp; have:=st.g.ns; rw [e] at this; exact (List.nodup_append.1 this).2.1
  rw [List.map_cons,List.nodup_cons] at hSpn
  have hCrn:((s :: r).flatMap (·.C)).Nodup:=by obtain ⟨dn,e⟩:=st.hCr; have:=st.g.nc; rw [e] at this; exact (List.nodup_append.1 this).2.1
  have hcSp:s.c ∈ Sp:=st.sp_sub s.c (by simp)
  have hcFl:¬ s.c ∈ Fl:=fun hf=>(st.g.fs _ hf).1 hcSp
  have hcCr:¬ s.c ∈ Cr:=st.g.sc _ hcSp
  have crSp:∀ j ∈ (s :: r).flatMap (·.C),¬ j ∈ (s :: r).map (·.c):=fun j hj hs=>st.g.sc j (st.sp_sub j hs) (st.cr_sub j hj)
  have flSp:∀ f ∈ Fl,¬ f ∈ (s :: r).map (·.c):=fun f hf hs=>(st.g.fs f hf).1 (st.sp_sub f hs)
  have hHFl:∀ f ∈ s.H,f ∈ Fl:=fun f hf=>by rw [st.hFl,hHs]; exact List.mem_append_right _ (List.mem_append_left _ hf)
  unfold vsp at hv
  obtain ⟨_,hv⟩:=hv
  rw [QdK] at hv
  have hpc:pick ops.toList [s.c] = [o]:=by simp only [pick,QbQ ho]
  rw [hpc] at hv
  have hCL:∀ j ∈ s.C,L.getD j false = true:=fun j hj=>QcV ho hd (so.cc j hj)
  have hcore:=h.core
  rw [hcs] at hcore
  obtain ⟨rb',β',S',k1,k2,k3,k4,k5,k6⟩:=Qk9 (l:=s.C) (cs:=r.flatMap (·.C)) hcore (by rw [<- hcs]; exact h.rv) (by rw [<- hcs]; exact h.rbo) hCL
    (by
      rw [<- hcs]
      intro j hj
      obtain ⟨oj,tj,q1,q2,q3,q4⟩:=hcd j hj
      refine ⟨oj,tj,q1,q2,q3,fun i hi hne=>?_⟩
      cases hu:QjN ops i tj with
      | false=>rfl
      | true =>
        obtain ⟨oi,_,p1,_⟩:=hcd i hi
        exact absurd (q4 i (Array.getElem?_eq_some_iff.1 p1).1 hne hu) (crSp i hi))
    (by rw [<- hcs]; exact hCrn) hv
  -- the operation itself
  have hseen:∀ u ∈ o.looksAt ops,¬ Qmc ops fl (r.flatMap (·.C)) L u:=fun u hu=>
    seen st.g st.fl_sub hcdr ho hd (Q8 ho hu) hSpn.1 hL (fun hf=>absurd (st.fl_sub _ hf) hcFl)
  have hs:=k2.only hseen
  have hrun:=QpH (S':=S'.only (o.looksAt ops)) (fun t ht=>Qej S' _ t ht) rfl rfl k1
  refine Qlj hs hrun (fun β2 d v hp2 w2 e1 e2 e3 hfit hK=>?_)
  obtain ⟨d',hp',heq,hag,hrunH⟩:=hK
  have hfit':S'.fits o.dst = true:=hfit
  have hhp:hp' = hp2:=by
    have:=congrArg St.hp heq
    rw [St.put_hp,St.put_hp] at this
    exact this.symm
  subst hhp
  have hS1:(S'.at hp').put o.dst d' = (S'.at hp').put o.dst d:=by
    cases hdd:o.dst with
    | none=>rfl
    | some t =>
      rw [hdd] at heq
      have:=congrArg St.tm heq
      simp only [St.put,List.cons.injEq,Prod.mk.injEq] at this
      rw [this.1.2]
  rw [hS1] at hag hrunH
  have step:=k2.step e1 e2 e3 hfit'
  generalize hS1e:(S'.at hp').put o.dst d = S1 at hag hrunH step
  have l1:∀ t,o.dst ≠ some t->look S1.tm t = look S'.tm t:=fun t ht=>by rw [<- hS1e,Qau,if_neg ht]; rfl
  have n1:S1.nt = S'.nt:=by rw [<- hS1e,St.put_nt]; rfl
  have h1hp:S1.hp = hp':=by rw [<- hS1e,St.put_hp]; rfl
  have hpairAll:=QcM st.g (fun f hf=>hf) st.g.fo st.g.nf
  rw [st.hFl,hHs,<- List.append_assoc,List.pairwise_append] at hpairAll
  obtain ⟨hpair1,_,_⟩:=hpairAll
  rw [List.pairwise_append] at hpair1
  obtain ⟨_,hpairH,hpairX⟩:=hpair1
  obtain ⟨S2,m1,m2,m3,m4,m5,m6⟩:=QgM (fun f hf=>by obtain ⟨of,tf,q1,q2,q3,q4,_⟩:=st.g.fl f (hHFl f hf); exact ⟨of,tf,q1,q2,q3,q4⟩) hpairH hrunH
  refine hn rb' β2 S2 _ _ ?_ m1
  have hsz:s.c < L.size:=by rw [h.lsz]; exact hclt
  have hself:=QiI hsz
  have hoth:∀ i,i ≠ s.c->(L.setIfInBounds s.c true).getD i false = L.getD i false:=fun i hi=>getD_set_ne false (Ne.symm hi)
  have hmono:∀ i,L.getD i false = true->(L.setIfInBounds s.c true).getD i false = true:=fun i hi=>getD_set_true hi
  have hHL:∀ f ∈ s.H,L.getD f false = false:=fun f hf=>h.flo f (by rw [hHs]; exact List.mem_append_left _ hf)
  have hcdo:∀ t,o.dst = some t->dstOf ops s.c = some t:=fun t ht=>by simp [dstOf,ho,ht]
  -- slots of others that this operation does not write
  have keepF:∀ f ∈ fl,L.getD f false = false->∀ of,ops[f]? = some of->∀ u ∈ of.looksAt ops,look S2.tm u = look S.tm u/\look S1.tm u = look S.tm u:=by
    intro f hf hLf of hof u hu
    have a1:o.dst ≠ some u:=fun e=>by
      rcases st.g.sp s.c hcSp u (hcdo u e) f (st.fl_sub f hf) (Qnj hof hu) with hb | hb
      · have:=QcV ho hd hb; rw [hLf] at this; cases this
      · rw [(so.fc f hf).1] at hb; cases hb
    have a2:∀ j ∈ s.C,dstOf ops j ≠ some u:=fun j hj e=>by
      obtain ⟨oj,tj,q1,q2,q3,q4⟩:=so.cd j hj
      have:tj = u:=by simp only [dstOf,q1] at e; rw [q3] at e; exact Option.some.inj e
      subst this
      exact flSp f (st.fl_sub f hf) (q4 f (Array.getElem?_eq_some_iff.1 hof).1 (fun e=>(st.g.fs f (st.fl_sub f hf)).2 (e ▸ st.cr_sub j (by rw [hcs]; exact List.mem_append_left _ hj))) (Q8 hof hu))
    have a3:∀ g ∈ s.H,dstOf ops g ≠ some u:=fun g hg e=>by
      have:=hpairX f hf g hg u e
      rw [Q8 hof hu] at this; cases this
    exact ⟨(m5 u a3).trans ((l1 u a1).trans (k6 u a2)),(l1 u a1).trans (k6 u a2)⟩
  have keepD:∀ f ∈ fl,L.getD f false = false->∀ t,dstOf ops f = some t->f < ops.size->look S2.tm t = look S.tm t:=by
    intro f hf hLf t ht hflt
    have a1:o.dst ≠ some t:=fun e=>by
      obtain ⟨of,tf,q1,_,q2,_,q3⟩:=st.g.fl f (st.fl_sub f hf)
      have:tf = t:=by simp only [dstOf,q1] at ht; rw [q2] at ht; exact Option.some.inj ht
      subst this
      have:=QcV ho hd (q3 s.c hclt (fun e=>hcFl (e ▸ st.fl_sub f hf)) (QaE (hcdo tf e)))
      rw [hLf] at this; cases this
    have a2:∀ j ∈ s.C,dstOf ops j ≠ some t:=fun j hj e=>by
      obtain ⟨oj,tj,q1,q2,q3,q4⟩:=so.cd j hj
      have:tj = t:=by simp only [dstOf,q1] at e; rw [q3] at e; exact Option.some.inj e
      subst this
      exact flSp f (st.fl_sub f hf) (q4 f hflt (fun e=>(st.g.fs f (st.fl_sub f hf)).2 (e ▸ st.cr_sub j (by rw [hcs]; exact List.mem_append_left _ hj))) (QaE ht))
    have a3:∀ g ∈ s.H,dstOf ops g ≠ some t:=fun g hg e=>by
      have:=hpairX f hf g hg t e
      rw [QaE ht] at this; cases this
    exact (m5 t a3).trans ((l1 t a1).trans (k6 t a2))
  have keepC:∀ j ∈ r.flatMap (·.C),L.getD j false = true->∀ oj,ops[j]? = some oj->∀ u ∈ oj.looksAt ops,look S2.tm u = look S'.tm u:=by
    intro j hj hLj oj hoj u hu
    have hjc:j ∈ (s :: r).flatMap (·.C):=by rw [hcs]; exact List.mem_append_right _ hj
    have hdj:=h.clo j oj hoj hLj
    have a1:o.dst ≠ some u:=fun e=>by
      have:=QcV hoj hdj (st.g.cr j (st.cr_sub j hjc) s.c u hclt (hcdo u e) (fun e=>hcCr (e ▸ st.cr_sub j hjc)) (Qnj hoj hu))
      rw [hL] at this; cases this
    have a3:∀ g ∈ s.H,dstOf ops g ≠ some u:=fun g hg e=>by
      obtain ⟨og,tg,q1,_,q2,_,q3⟩:=st.g.fl g (hHFl g hg)
      have:tg = u:=by simp only [dstOf,q1] at e; rw [q2] at e; exact Option.some.inj e
      subst this
      have:=QcV hoj hdj (q3 j (Array.getElem?_eq_some_iff.1 hoj).1 (fun e=>(st.g.fs g (hHFl g hg)).2 (e ▸ st.cr_sub j hjc)) (Q8 hoj hu))
      rw [hHL g hg] at this; cases this
    exact (m5 u a3).trans (l1 u a1)
  have hfitu:∀ u,o.dst = some u->u < a.tmps.size:=fun u hu=>by rw [k2.size]; rw [hu] at hfit'; simpa [St.fits] using hfit'
  refine ⟨by simp [h.lsz],?_,fun i hi=>?_,fun c hc=>?_,fun g hg=>?_,fun i oi hi hLi e he hb=>?_,fun j hj hLj=>?_,fun j b hb=>?_,fun f hf hLf=>?_⟩
  · refine ⟨step.defers,by rw [m3]; exact step.size,fun t ht=>?_,by rw [m2]; exact step.heap,by rw [m2]; exact step.evo,by rw [m4]; exact step.base,step.sub,step.rinj,step.rnew⟩
    have a3:∀ g ∈ s.H,dstOf ops g ≠ some t:=fun g hg e=>ht (.inl ⟨g,List.mem_append_right _ hg,by rw [hoth g (fun e=>hcFl (e ▸ hHFl g hg))]; exact hHL g hg,e⟩)
    rw [m5 t a3,m2]
    refine step.tm t fun ⟨hid,_⟩=>ht ?_
    rcases hid with ⟨f,hf,hLf,hfd⟩ | ⟨j,hj,hLj,hjd⟩
    · exact .inl ⟨f,List.mem_append_left _ hf,by rw [hoth f (fun e=>hcFl (e ▸ st.fl_sub f hf))]; exact hLf,hfd⟩
    · exact .inr ⟨j,hj,hmono j hLj,hjd⟩
  · rcases h.cov i hi with hc | hc | hc | hc
    · exact .inl (hmono i hc)
    · rw [hHs,<- List.append_assoc] at hc; exact .inr (.inl hc)
    · rw [List.map_cons,List.mem_cons] at hc
      rcases hc with rfl | hc
      · exact .inl hself
      · exact .inr (.inr (.inl hc))
    · rw [hcs,List.mem_append] at hc
      rcases hc with hc | hc
      · exact .inl (hmono i (hCL i hc))
      · exact .inr (.inr (.inr hc))
  · rw [hoth c (fun e=>hSpn.1 (e ▸ hc))]; exact h.sp c (by rw [List.map_cons]; exact List.mem_cons_of_mem _ hc)
  · rw [hoth g (fun e=>hcFl (by rw [<- e,st.hFl,hHs]; exact List.mem_append_right _ (List.mem_append_right _ hg)))]
    exact h.flo g (by rw [hHs]; exact List.mem_append_right _ hg)
  · by_cases e':i = s.c
    · subst e'; rw [ho] at hi; cases hi; exact hmono _ (hd e he hb)
    · rw [hoth i e'] at hLi; exact hmono _ (h.clo i oi hi hLi e he hb)
  · have hjc:j ∈ (s :: r).flatMap (·.C):=by rw [hcs]; exact List.mem_append_right _ hj
    have hjne:j ≠ s.c:=fun e=>hcCr (e ▸ st.cr_sub j hjc)
    rw [hoth j hjne] at hLj
    obtain ⟨oj,tj,dj,B,b,q1,q2,q3,q4,q5⟩:=k3 j hj hLj
    refine ⟨oj,tj,dj,B,b,q1,q2,q3,?_,?_⟩
    · rw [Qic (ev:=fun x=>Qm true (S'.ev x)) (fun x hx=>by show Qm true _ = Qm true _; rw [QhD (keepC j hj hLj oj q1) x hx])]
      exact q4
    · have hne:¬ (o.dst = some tj):=fun e=>by
        obtain ⟨oj',tj',r1,_,r2,r3⟩:=hcdr j hj
        rw [q1] at r1; cases r1
        rw [q2] at r2; cases r2
        exact hSpn.1 (r3 s.c hclt hjne.symm (QaE (hcdo tj e)))
      rw [Qbh hfitu,if_neg hne,m2,h1hp]
      exact q5.evo k2.heap e1
  · obtain ⟨r1,r2⟩:=k4 j b hb
    exact ⟨r1,hmono j r2⟩
  · rcases List.mem_append.1 hf with hf | hf
    · have hfne:f ≠ s.c:=fun e=>hcFl (e ▸ st.fl_sub f hf)
      rw [hoth f hfne] at hLf
      obtain ⟨of,tf,q1,q2,q3,_,_⟩:=st.g.fl f (st.fl_sub f hf)
      have hflt:f < ops.size:=(Array.getElem?_eq_some_iff.1 q1).1
      refine (h.pend f hf hLf).move q1 q3 q2 (fun u hu=>(keepF f hf hLf of q1 u hu).1) (keepD f hf hLf tf (by simp [dstOf,q1,q3]) hflt) (m3.trans (n1.trans k5)) (fun G hG k hk=>?_)
      have hF:f ∈ s.F:=by
        rcases so.ff f hf with hF | hb
        · exact hF
        · have:=QcV ho hd hb; rw [hLf] at this; cases this
      have hag1:=Qk8 hag of (QfQ (QbQ q1) hF)
      have hg1:QA ops.toList S1 of = some G:=by rw [Qa6 (S:=S) (fun u hu=>(keepF f hf hLf of q1 u hu).2)]; exact hG
      rw [hg1] at hag1
      have hft:QbM (fun x=>Qm G (S1.ev x)) of.op = QbM (fun x=>Qm G (S.ev x)) of.op:=QoN fun x hx=>by rw [QhD (S:=S) (fun u hu=>(keepF f hf hLf of q1 u hu).2) x hx]
      have:=QhV hag1 k (by rw [hft]; exact hk)
      rw [m2]; exact this
    · exact m6 f hf
theorem Qlh {Q:Exit->Act->World->Prop} {O:Org} {K:St->Prop} (hK:∀ β S a w,Sim O β S a w->K S->Q .normal a w):∀ (fuel:Nat) (L:Array Bool) (a:Act) (w:World) (fl:List Nat) (rs:List Seg) (rb:Nat->Option Nat) (β:Map) (S:St),
    (List.range ops.size).countP (fun i=>!L.getD i false)<=fuel->Stat ops Fl Sp Cr fl rs->MInv P ops O fl rs rb β S L a w->vsp P ops.toList rs K S->wpAny P .any ops Q fuel L a w:=by
  have done : ∀ (L:Array Bool) (a:Act) (w:World) (fl:List Nat) (rs:List Seg) (rb:Nat->Option Nat) (β:Map) (S:St),Region.ready .any ops L = []->Stat ops Fl Sp Cr fl rs->MInv P ops O fl rs rb β S L a w->vsp P ops.toList rs K S->Q .normal a w:=by
    intro L a w fl rs rb β S hready st h hv
    have all:∀ i,i < ops.size->L.getD i false = true:=by
      intro i
      induction i using Nat.strongRecOn with
      | _ i ih =>
        intro hlt
        cases hl:L.getD i false with
        | true=>rfl
        | false =>
          have ho:ops[i]? = some ops[i]:=Array.getElem?_eq_getElem hlt
          have hmem:i ∈ Region.ready .any ops L:=by
            rw [mem_ready]
            have hsz:i < L.size:=by rw [h.lsz]; exact hlt
            refine ⟨by simpa [hsz] using hl,ops[i],ho,fun e he hb=>?_⟩
            have hlt':=st.g.back i _ ho e he hb
            exact ih e.on hlt' (Nat.lt_trans hlt' hlt)
          rw [hready] at hmem
          cases hmem
    cases rs with
    | cons s r =>
      have h1:=h.sp s.c (by simp)
      have hs:=st.ok
      simp only [Qbr,Bool.and_eq_true] at hs
      have h2:=all s.c (Qc5 hs.1).lt
      rw [h1] at h2; cases h2
    | nil =>
      have hrb:∀ j b,rb j ≠ some b:=fun j b hb=>by have:=(h.rbo j b hb).1; simp at this
      have hβ:β = ⟨β.f,O.β.X⟩:=by
        obtain ⟨f,X⟩:=β
        have:X = O.β.X:=by
          funext b
          exact propext ((h.core.sub b).trans ⟨fun x=>x.elim id (fun ⟨j,hj⟩=>absurd hj (hrb j b)),.inl⟩)
        rw [this]
      refine hK β S a w ⟨h.core.defers,h.core.size,fun t=>h.core.tm t ?_,h.core.heap,by have:=h.core.evo; rw [<- hβ] at this; exact this,h.core.base⟩ hv
      rintro (⟨f,hf,hL,hd⟩ | ⟨j,hj,_⟩)
      · obtain ⟨of,_,q1,_⟩:=st.g.fl f (st.fl_sub f hf)
        have:=all f (Array.getElem?_eq_some_iff.1 q1).1
        rw [hL] at this; cases this
      · simp at hj
  intro fuel
  induction fuel with
  | zero =>
    intro L a w fl rs rb β S hc st h hv
    have hready:Region.ready .any ops L = []:=by
      apply List.eq_nil_iff_forall_not_mem.2
      intro j hj
      obtain ⟨h0,o,ho,_⟩:=mem_ready.1 hj
      have hlt:j < ops.size:=(Array.getElem?_eq_some_iff.1 ho).1
      have:0 < (List.range ops.size).countP (fun i=>!L.getD i false):=by
        rw [List.countP_pos_iff]
        refine ⟨j,List.mem_range.2 hlt,?_⟩
        have hsz:j < L.size:=by rw [h.lsz]; exact hlt
        simp [hsz] at h0 |-
        exact h0
      omega
    exact ⟨hready,done L a w fl rs rb β S hready st h hv⟩
  | succ fuel ih =>
    intro L a w fl rs rb β S hc st h hv
    refine ⟨fun hready=>done L a w fl rs rb β S hready st h hv,fun j hj=>?_⟩
    obtain ⟨h0,o,ho,hd⟩:=mem_ready.1 hj
    have hlt:j < ops.size:=(Array.getElem?_eq_some_iff.1 ho).1
    have hsz:j < L.size:=by rw [h.lsz]; exact hlt
    have hL:L.getD j false = false:=by simp [hsz] at h0 |-; exact h0
    have hcnt:(List.range ops.size).countP (fun i=>!(L.setIfInBounds j true).getD i false)<=fuel:=by
      have:(List.range ops.size).countP (fun i=>!(L.setIfInBounds j true).getD i false) < (List.range ops.size).countP (fun i=>!L.getD i false):=by
        refine Qeu (List.mem_range.2 hlt) (by rw [hL]; rfl) (by simp [hsz]) (fun i hp=>?_)
        by_cases hij:i = j
        · rw [hij,hL]; rfl
        · rw [getD_set_ne false (Ne.symm hij)] at hp; exact hp
      omega
    unfold wpOp
    rw [ho]
    simp only
    have dep:∀ i,bnd ops j i = true->L.getD i false = true:=fun i hb=>QcV ho hd hb
    rcases h.cov j hlt with hx | hx | hx | hx
    · rw [hL] at hx; cases hx
    · rcases List.mem_append.1 hx with hf | hf
      · exact QoQ st h hf ho hL hd fun β' a' w' h'=>ih _ a' w' fl rs rb β' S hcnt st h' hv
      · exfalso
        rcases Qj3 st.ok j hf with ⟨c,h1,h2⟩ | ⟨g,h1,h2⟩
        · have:=dep c h2; rw [h.sp c h1] at this; cases this
        · have:=dep g h2; rw [h.flo g h1] at this; cases this
    · cases rs with
      | nil=>simp at hx
      | cons s r =>
        rw [List.map_cons,List.mem_cons] at hx
        rcases hx with rfl | hx
        · have st':Stat ops Fl Sp Cr (fl ++ s.H) r:=by
            have hs:=st.ok
            simp only [Qbr,Bool.and_eq_true] at hs
            obtain ⟨dn,e1⟩:=st.hSp
            obtain ⟨dn',e2⟩:=st.hCr
            exact ⟨st.g,by rw [st.hFl,List.flatMap_cons,List.append_assoc],⟨dn ++ [s.c],by rw [e1]; simp⟩,⟨dn' ++ s.C,by rw [e2,List.flatMap_cons]; simp⟩,hs.2⟩
          exact Qn1 st h ho hd hv fun rb' β' S' a' w' h' hv'=>ih _ a' w' (fl ++ s.H) r rb' β' S' hcnt st' h' hv'
        · exfalso
          obtain ⟨c',h1,h2⟩:=Qj4 st.ok j hx
          have:=dep c' h2; rw [h.sp c' h1] at this; cases this
    · cases rs with
      | nil=>simp at hx
      | cons s r =>
        have hs:=st.ok
        simp only [Qbr,Bool.and_eq_true] at hs
        rcases (Qc5 hs.1).rr j hx with hR | ⟨i,hi,hb⟩
        · have hv2:=hv
          unfold vsp at hv2
          obtain ⟨f1,f2⟩:=QgW hv2.1 o (QfQ (QbQ ho) hR)
          exact QsU st h hx ho hL hd f1 f2 fun rb' β' a' w' h'=>ih _ a' w' fl (s :: r) rb' β' S hcnt st h' hv
        · exfalso
          have:=dep i hb
          rcases List.mem_append.1 hi with hi | hi
          · rw [h.sp i hi] at this; cases this
          · rw [h.flo i hi] at this; cases this
theorem QeD {Q:Exit->St->Prop} {S:St} (H0:List Nat) (segs:List Seg) (hok:Qgh ops H0 segs = true) (h:Qag P ops.toList (pick ops.toList H0) (vsp P ops.toList segs (Q .normal)) S) {O:Org} {β:Map} {a:Act} {w:World} (hs:Sim O β S a w) :
    wpAny P .any ops (Qkz O Q) ops.size (Array.replicate ops.size false) a { w with drawn:=w.drawn + 1 }:=by
  simp only [Qgh,Bool.and_eq_true] at hok
  obtain ⟨⟨hg,hsg⟩,_⟩:=hok
  have g:=Qsl hg
  have hpair:=QcM g (fun f hf=>hf) g.fo g.nf
  rw [List.pairwise_append] at hpair
  obtain ⟨S2,m1,m2,m3,m4,m5,m6⟩:=QgM (fun f hf=>by obtain ⟨of,tf,q1,q2,q3,q4,_⟩:=g.fl f (List.mem_append_left _ hf); exact ⟨of,tf,q1,q2,q3,q4⟩) hpair.1 h
  have e:Evo w β S.hp w.drew β S.hp:=Qa5 w β S.hp
  have hfalse:∀ i,(Array.replicate ops.size false).getD i false = false:=fun i=>by
    by_cases hi:i < ops.size<;>simp [hi]
  have st:Stat ops (H0 ++ segs.flatMap (·.H)) (segs.map (·.c)) (segs.flatMap (·.C)) H0 segs:=⟨g,rfl,⟨[],rfl⟩,⟨[],rfl⟩,hsg⟩
  refine Qlh (O:=O) (Q:=Qkz O Q) (fun β S a w hs hk=>⟨β,S,hs,hk⟩) ops.size (Array.replicate ops.size false) a _ H0 segs (fun _=>none) β S2 ?_ st ?_ m1
  · have:=List.countP_le_length (p:=fun i=>!(Array.replicate ops.size false).getD i false) (l:=List.range ops.size)
    simpa using this
  · refine ⟨by simp,⟨hs.defers,by rw [m3]; exact hs.size,fun t ht=>?_,by rw [m2]; exact hs.heap.drew,?_,by rw [m4]; exact hs.base,fun b=>?_,fun i j b hi=>(by cases hi),fun j b hj=>(by cases hj)⟩,fun i hi=>?_,fun c _=>hfalse c,fun f _=>hfalse f,fun i o _ hl=>?_,fun j _ hl=>?_,fun j b hb=>(by cases hb),fun f hf _=>m6 f hf⟩
    · have a3:∀ f ∈ H0,dstOf ops f ≠ some t:=fun f hf e=>ht (.inl ⟨f,hf,hfalse f,e⟩)
      rw [m5 t a3,m2]
      exact (hs.tm t).mono e
    · rw [m2]
      have ev:=hs.evo.trans e
      have hX:β.X = O.β.X:=ev.X
      have:=ev.reX O.β.X
      exact this
    · have hX:β.X = O.β.X:=hs.evo.X
      rw [hX]
      exact ⟨.inl,fun x=>x.elim (fun h=>h) (fun ⟨j,hj⟩=>(by cases hj))⟩
    · rcases g.all i hi with hx | hx | hx
      · exact .inr (.inl hx)
      · exact .inr (.inr (.inl hx))
      · exact .inr (.inr (.inr hx))
    · rw [hfalse] at hl; cases hl
    · rw [hfalse] at hl; cases hl
theorem Qb {id:Nat} {Q:Exit->St->Prop} {S:St} (H0:List Nat) (segs:List Seg) (hm:P.follows .mixedOrders = true) (hok:Qgh ops H0 segs = true) (h:Qag P ops.toList (pick ops.toList H0) (vsp P ops.toList segs (Q .normal)) S):VDraw P id ops Q S:=
  fun _ _ _ _ hs=>wp_region_any hm (QeD H0 segs hok h hs)
end
end Go.V
namespace Go.V
def QyP (o:Option Oper) (l:List Oper):List Oper:=match o with | some o=>o :: l | none=>l
def QAf (P:Program) (all:List Oper) (l:List Oper) (K:St->Prop) (S:St):Prop:=Qag P all l K S
def QCC (P:Program) (all:List Oper) (F H:List Nat) (r:List Seg) (K:St->Prop) (S S1:St):Prop:=QhH all S S1 (pick all F)/\QAf P all (pick all H) (vsp P all r K) S1
def QAi (A B:Prop):Prop:=A/\B
def Qv6 (x:Option (DV × Qa)):Option (DV × Blk):=match x with
  | some (.ptr 0 0,[B])=>some (.ptr 0 0,B)
  | some (.own 0 sz 0 n,[B])=>some (.own 0 sz 0 n,B)
  | _=>none
def Qmn (x:Option (DV × Blk)) (l:List DV):Prop:=match x with
  | some (_,B)=>B.live = true/\0 < B.cells.length/\DV.nums.go (fun _=>false) B.cells = true/\DV.nums.go (fun _=>false) l = true
  | none=>False
theorem Qvc {all:List Oper}:pick all [] = []:=rfl
theorem QrD {all:List Oper} {i:Nat} {r:List Nat}:pick all (i :: r) = QyP all[i]? (pick all r):=by
  cases h:all[i]?<;>simp [pick,QyP,h]
theorem Qor {o:Oper} {l:List Oper}:QyP (some o) l = o :: l:=rfl
theorem Qxm {P:Program} {all:List Oper} {K:St->Prop} {S:St}:vsp P all [] K S = K S:=by rw [vsp]
theorem QtG {P:Program} {all:List Oper} {R C F H:List Nat} {c:Nat} {r:List Seg} {K:St->Prop} {S:St}:vsp P all (⟨R,C,c,F,H⟩ :: r) K S = QAi (Qch P S (pick all R)) (QAf P all (pick all (C ++ [c])) (QCC P all F H r K S) S):=by
  rw [vsp]; rfl
theorem QpC {B:Prop}:QAi True B = B:=by simp [QAi]
theorem Qxn {P:Program} {all l:List Oper} {K:St->Prop} {S:St}:QAf P all l K S = Qag P all l K S:=rfl
theorem Qxo {P:Program} {all:List Oper} {F H:List Nat} {r:List Seg} {K:St->Prop} {S S1:St}:QCC P all F H r K S S1 = QAi (QhH all S S1 (pick all F)) (QAf P all (pick all H) (vsp P all r K) S1):=rfl
@[congr] theorem QAh {A A' B:Prop} (h:A = A'):QAi A B = QAi A' B:=by rw [h]
@[congr] theorem QAe (P:Program) (all:List Oper) (K:St->Prop) (S:St) {l l':List Oper} (h:l = l'):QAf P all l K S = QAf P all l' K S:=by rw [h]
@[congr] theorem QAH (P:Program) (all:List Oper) (segs:List Seg) (K:St->Prop) (S:St):vsp P all segs K S = vsp P all segs K S:=rfl
@[congr] theorem QAg (P:Program) (all:List Oper) (F H:List Nat) (r:List Seg) (K:St->Prop) (S S1:St):QCC P all F H r K S S1 = QCC P all F H r K S S1:=rfl
theorem QsT {P:Program} {S:St}:Qch P S [] = True:=rfl
theorem QoV {P:Program} {S:St} {o:Oper} {r:List Oper}:Qch P S (o :: r) = ((S.fits o.dst = true/\Qfk P (evG true S) o.op)/\Qch P S r):=rfl
theorem QsV {P:Program} {ev:Operand->DV} {o:Op}:Qfk P ev o = Qmn (Qv6 (vop P ev [] o)) (o.operands.toList.map ev):=by
  unfold Qfk Qmn QtD Qv6; rfl
theorem QsW {B:Blk}:Qv6 (some (.ptr 0 0,[B])) = some (.ptr 0 0,B):=rfl
theorem QsX {sz n:Nat} {B:Blk}:Qv6 (some (.own 0 sz 0 n,[B])) = some (.own 0 sz 0 n,B):=rfl
theorem QkZ {d:DV} {T:TypeId} {b:Bool} {cs l:List DV}:Qmn (some (d,⟨T,b,cs⟩)) l = (b = true/\0 < cs.length/\DV.nums.go (fun _=>false) cs = true/\DV.nums.go (fun _=>false) l = true):=rfl
theorem Qtq {all:List Oper} {S S1:St}:QhH all S S1 [] = True:=rfl
theorem Qpi {all:List Oper} {S S1:St} {o:Oper} {r:List Oper}:QhH all S S1 (o :: r) = (QnD S S1 o (QA all S1 o)/\QhH all S S1 r):=rfl
theorem Qmx {S S1:St} {o:Oper} {G:Bool}:QnD S S1 o (some G) = Qgi S.hp S1.hp (QbM (evG G S1) o.op).1:=rfl
theorem Qob {hp hp1:Qa}:Qgi hp hp1 [] = True:=rfl
theorem QlI {hp hp1:Qa} {k:Nat} {r:List Nat}:Qgi hp hp1 (k :: r) = (hp1[k]? = hp[k]?/\Qgi hp hp1 r):=rfl
end Go.V
namespace Go.V
structure Enc (α:Type) where
  sz:Nat
  enc:α->List PV
  hsz:0 < sz
  hlen:∀ a,(enc a).length = sz
def cells {α:Type} (e:Enc α) (l:List α):List DV:=(l.map fun a=>(e.enc a).map DV.pv).flatten
def fz {α:Type} (e:Enc α) (l:List α):List (List PV):=l.map e.enc
def QN:Enc Int:=⟨1,fun n=>[.lit (.int .i64 n)],Nat.one_pos,fun _=>rfl⟩
def QEA:Enc Bool:=⟨1,fun b=>[.lit (.bool b)],Nat.one_pos,fun _=>rfl⟩
def QeY:Enc UInt8:=⟨1,fun b=>[.lit (.int .u8 b.toNat)],Nat.one_pos,fun _=>rfl⟩
section
variable {α:Type} (e:Enc α)
theorem QkM (l:List α):(fz e l).length = l.length:=by simp [fz]
theorem Qh6 (l:List α) (i:Nat) (h:i < l.length):(fz e l)[i]? = some (e.enc l[i]):=by
  rw [fz,List.getElem?_map,List.getElem?_eq_getElem h]; rfl
theorem Qsp (l:List α) (n:Nat):(fz e l).take n = fz e (l.take n):=by simp [fz,List.map_take]
theorem Qzw (l:List α) (n:Nat):(fz e l).drop n = fz e (l.drop n):=by simp [fz,List.map_drop]
theorem Qzv (l:List α):((fz e l).flatten).map DV.pv = cells e l:=by
  induction l with
  | nil=>rfl
  | cons a r ih=>simp only [fz,cells,List.map_cons,List.flatten_cons,List.map_append] at ih |-; rw [ih]
theorem Qsq (l:List α) (h:0 < l.length):(fz e l)[0]?.map List.length = some e.sz:=by
  rw [Qh6 e l 0 h]; simp [e.hlen]
theorem QG (a:α) (l:List α):cells e (a :: l) = (e.enc a).map DV.pv ++ cells e l:=rfl
theorem QE (a b:List α):cells e (a ++ b) = cells e a ++ cells e b:=by simp [cells]
theorem QS (l:List α):(cells e l).length = l.length * e.sz:=by
  induction l with
  | nil=>simp [cells]
  | cons a r ih=>rw [QG,List.length_append,ih,List.length_map,e.hlen,List.length_cons,Nat.add_mul]; omega
theorem QfP (p:Nat->Bool):∀ (l:List PV),DV.nums.go p (l.map DV.pv) = true
  | []=>rfl
  | _ :: r=>QfP p r
theorem Qm9 (n:Nat):∀ (l:List PV),DV.refs.go n (l.map DV.pv) = true
  | []=>rfl
  | _ :: r=>Qm9 n r
theorem Qew (l:List α):cells e l = ((l.map e.enc).flatten).map DV.pv:=by
  induction l with
  | nil=>rfl
  | cons a r ih=>rw [QG,List.map_cons,List.flatten_cons,List.map_append,ih]
theorem Qq (p:Nat->Bool) (l:List α):DV.nums.go p (cells e l) = true:=by rw [Qew]; exact QfP p _
theorem Qo5 (n:Nat) (l:List α):DV.refs.go n (cells e l) = true:=by rw [Qew]; exact Qm9 n _
theorem Qru (n:Nat) (hp:Qa):∀ (l:List PV),Qh ((l.map DV.pv).map (Qcq n hp)) = some (l.map DV.pv)
  | []=>rfl
  | a :: r=>by
    have:=Qru n hp r
    simp only [List.map_cons,Qh,Qcq] at this |-
    rw [this]; rfl
theorem Qna (n:Nat) (hp:Qa) (f:Nat):∀ (l:List PV),Qh ((l.map DV.pv).map (Qld n hp f)) = some l
  | []=>rfl
  | a :: r=>by
    have:=Qna n hp f r
    have h1:Qld n hp f (.pv a) = some a:=by cases f<;>rfl
    simp only [List.map_cons,Qh,h1] at this |-
    rw [this]; rfl
theorem Qs9 (n:Nat) (hp:Qa) (l:List α):Qh ((cells e l).map (Qcq n hp)) = some (cells e l):=by rw [Qew]; exact Qru n hp _
theorem Qex (l:List α) (i:Nat) (h:i < l.length):((cells e l).drop (i * e.sz)).take e.sz = (e.enc l[i]).map DV.pv:=by
  induction l generalizing i with
  | nil=>simp at h
  | cons a r ih =>
    have ha:((e.enc a).map DV.pv).length = e.sz:=by rw [List.length_map,e.hlen]
    cases i with
    | zero=>rw [Nat.zero_mul,List.drop_zero,QG,List.take_left' ha]; rfl
    | succ i =>
      have hi:i < r.length:=by simpa using h
      rw [QG,Nat.add_mul,Nat.one_mul,Nat.add_comm,<- List.drop_drop,List.drop_left' ha,ih i hi]; rfl
theorem Qo4 (l:List α) (n:Nat):(cells e l).take (n * e.sz) = cells e (l.take n):=by
  induction l generalizing n with
  | nil=>simp [cells]
  | cons a r ih =>
    have ha:((e.enc a).map DV.pv).length = e.sz:=by rw [List.length_map,e.hlen]
    cases n with
    | zero=>simp [cells]
    | succ n=>rw [QG,List.take_succ_cons,QG,Nat.add_mul,Nat.one_mul,Nat.add_comm,<- ha,List.take_append,Nat.add_sub_cancel_left,ha,ih,List.take_of_length_le (by omega)]
theorem Qo6 (l:List α) (n:Nat):(cells e l).drop (n * e.sz) = cells e (l.drop n):=by
  induction l generalizing n with
  | nil=>simp [cells]
  | cons a r ih =>
    have ha:((e.enc a).map DV.pv).length = e.sz:=by rw [List.length_map,e.hlen]
    cases n with
    | zero=>simp
    | succ n=>rw [QG,List.drop_succ_cons,Nat.add_mul,Nat.one_mul,Nat.add_comm,<- List.drop_drop,List.drop_left' ha,ih]
theorem Qid (n:Nat) (hp:Qa) (f:Nat):∀ (l:List α),Qh ((rows e.sz l.length (cells e l)).map fun r=>Qh (r.map (Qld n hp f))) = some (fz e l)
  | []=>rfl
  | a :: l=>by
    have ha:((e.enc a).map DV.pv).length = e.sz:=by rw [List.length_map,e.hlen]
    have hr:rows e.sz (a :: l).length (cells e (a :: l)) = (e.enc a).map DV.pv :: rows e.sz l.length (cells e l):=by
      rw [List.length_cons,rows,QG,List.take_left' ha,List.drop_left' ha]
    rw [hr,List.map_cons,Qna]
    show (Qh _).map _ = _
    rw [Qid n hp f l]; rfl
end
theorem Qnz (l:List Int):cells QN l = l.map (DV.int .i64):=by
  induction l with
  | nil=>rfl
  | cons a r ih=>rw [QG,ih]; rfl
theorem Qxa (l:List UInt8):cells QeY l = l.map fun b=>.pv (.lit (.int .u8 b.toNat)):=by
  induction l with
  | nil=>rfl
  | cons a r ih=>rw [QG,ih]; rfl
theorem Qdq (l:List Int):(cells QN l).length = l.length:=by rw [Qnz,List.length_map]
theorem Qdo (l:List UInt8):(cells QeY l).length = l.length:=by rw [Qxa,List.length_map]
theorem QeZ (l:List Int) (i:Nat) (h:i < l.length):(cells QN l)[i]? = some (.int .i64 (l.getD i 0)):=by
  rw [Qnz,List.getElem?_map,List.getD_eq_getElem?_getD,List.getElem?_eq_getElem h]; rfl
theorem Qdp (l:List Int) (i:Nat) (n:Int):(cells QN l).set i (.pv (.lit (.int .i64 n))) = cells QN (l.set i n):=by rw [Qnz,Qnz,List.map_set]
theorem QX (l:List Int) (i:Nat) (h:i < l.length):(fz QN l)[i]? = some [.lit (.int .i64 (l.getD i 0))]:=by
  rw [Qh6 QN l i h,List.getD_eq_getElem?_getD,List.getElem?_eq_getElem h]; rfl
theorem Qmf (l:List UInt8) (i:Nat) (h:i < l.length):(fz QeY l)[i]? = some [.lit (.int .u8 (l.getD i 0).toNat)]:=by
  rw [Qh6 QeY l i h,List.getD_eq_getElem?_getD,List.getElem?_eq_getElem h]; rfl
theorem mkI (n:Nat):mk [.pv (.lit (.int .i64 0))] n = cells QN (List.replicate n 0):=by
  induction n with
  | zero=>rfl
  | succ n ih=>rw [List.replicate_succ,QG,<- ih]; rfl
theorem mkB (n:Nat):mk [.pv (.lit (.bool false))] n = cells QEA (List.replicate n false):=by
  induction n with
  | zero=>rfl
  | succ n ih=>rw [List.replicate_succ,QG,<- ih]; rfl
theorem mkU (n:Nat):mk [.pv (.lit (.int .u8 0))] n = cells QeY (List.replicate n 0):=by
  induction n with
  | zero=>rfl
  | succ n ih=>rw [List.replicate_succ,QG,<- ih]; rfl
def QkP (n:Nat) (hp:Qa) (off sz len:Nat) (x:Option (List DV)):Option PV:=match x with
  | some cs=>if off + len * sz<=cs.length/\0 < sz then (Qh ((rows sz len (cs.drop off)).map fun r=>Qh (r.map (Qld n hp 3)))).map .sl else none
  | none=>none
theorem QvS {n k off sz len:Nat} {hp:Qa}:Qld n hp 4 (.own k sz off len) = if k < n then none else QkP n hp off sz len (Qf hp k):=rfl
theorem QY {α:Type} (e:Enc α) {n:Nat} {hp:Qa} {len:Nat} {l:List α} (h:l.length = len):QkP n hp 0 e.sz len (some (cells e l)) = some (.sl (fz e l)):=by
  subst h
  simp only [QkP]
  rw [if_pos ⟨by rw [QS]; omega,e.hsz⟩,List.drop_zero,Qid]; rfl
theorem Qw3 {n:Nat} {hp:Qa} {len:Nat} {l:List Int} (h:l.length = len):QkP n hp 0 1 len (some (cells QN l)) = some (.sl (fz QN l)):=QY QN h
theorem Qvq {α:Type} {n k:Nat} {A B:α} (hk:k<=1000) (hn:n<=1000000000):(if 0<=(n:Int)/\(n:Int)<=n/\(k:Int) * n<=281474976710656/\(n:Int)<=9223372036854775807 then A else B) = A:=by
  refine if_pos ⟨by omega,by omega,?_,by omega⟩
  have:(k:Int) * n<=1000 * n:=Int.mul_le_mul_of_nonneg_right (by omega) (by omega)
  omega
def PV.wk:PV->PV
  | .slc xs=>.sl xs
  | p=>p
def DV.wk:DV->DV
  | .pv p=>.pv p.wk
  | .agg cs=>.agg (go cs)
  | .tup cs=>.tup (go cs)
  | d=>d
where
  go:List DV->List DV
    | []=>[]
    | d :: r=>d.wk :: go r
theorem QZ:∀ (ds:List DV),DV.wk.go ds = ds.map DV.wk
  | []=>rfl
  | d :: r=>by rw [DV.wk.go,QZ r]; rfl
theorem RelP.wk {w:World} {im:Nat->Prop} {p:PV} {v:Value} (h:RelP w im p v):RelP w im p.wk v:=by
  cases h with
  | slc xs a sz val h1 h2 h3 h4 h5=>exact .sl xs a xs.length sz val (Nat.le_refl _) h1 h2 h3 h4 h5
  | lit v h=>exact .lit v h
  | str l=>exact .str l
  | sl xs a cap sz val h1 h2 h3 h4 h5 h6=>exact .sl xs a cap sz val h1 h2 h3 h4 h5 h6
theorem RelD.wk {w:World} {β:Map} {hp:Qa} {d:DV} {v:Value} (h:RelD w β hp d v):RelD w β hp d.wk v:=by
  induction h with
  | pv p v h=>exact .pv _ _ h.wk
  | ptr k off b h hb=>exact .ptr k off b h hb
  | own k sz off len cap b C T m h hb h1 h2 h3 h4=>exact .own k sz off len cap b C T m h hb h1 h2 h3 h4
  | ownc k sz off len cap b o C T m h hb h1 h2 h3 h4 h5=>exact .ownc k sz off len cap b o C T m h hb h1 h2 h3 h4 h5
  | own0 k sz a h hb ha=>exact .own0 k sz a h hb ha
  | ip cs ad val h1 h2 h3=>exact .ip cs ad val h1 h2 h3
  | agg ds vs h _ ih =>
    refine .agg _ vs (by rw [QZ,List.length_map]; exact h) (fun i d hd=>?_)
    rw [QZ,List.getElem?_map] at hd
    obtain ⟨x,h1,h2⟩:=Qy hd
    subst h2; exact ih i x h1
  | fn f ds es vs us h h' h1 h2 _ _=>exact .fn f ds es vs us h h' h1 h2
  | tup ds vs h _ ih =>
    refine .tup _ vs (by rw [QZ,List.length_map]; exact h) (fun i d hd=>?_)
    rw [QZ,List.getElem?_map] at hd
    obtain ⟨x,h1,h2⟩:=Qy hd
    subst h2; exact ih i x h1
  | opt c d v h hf _=>exact .opt c d v h hf
  | any v=>exact .any v
mutual
theorem Qpy (p:Nat->Bool):∀ (d:DV),d.nums p = true->d.wk.nums p = true
  | .pv _,_=>rfl
  | .ptr _ _,h=>h
  | .own _ _ _ _,h=>h
  | .ownc _ _ _ _ _,h=>h
  | .ip _,_=>rfl
  | .any,_=>rfl
  | .agg cs,h=>by simp only [DV.nums] at h; simp only [DV.wk,DV.nums]; exact QeC p cs h
  | .tup cs,h=>by simp only [DV.nums] at h; simp only [DV.wk,DV.nums]; exact QeC p cs h
  | .fn _ _ _,h=>h
  | .opt _ _,h=>h
theorem QeC (p:Nat->Bool):∀ (ds:List DV),DV.nums.go p ds = true->DV.nums.go p (DV.wk.go ds) = true
  | [],_=>rfl
  | d :: r,h=>by
    simp only [DV.nums.go,Bool.and_eq_true] at h
    simp only [DV.wk.go,DV.nums.go,Bool.and_eq_true]
    exact ⟨Qpy p d h.1,QeC p r h.2⟩
end
abbrev QD2 (d:DV):DV->Qa->Prop:=fun r h'=>h' = []/\r.nums (fun _=>false) = true/\r.wk = d
theorem VCalls.unwk {P:Program} {g:FuncId} {args:List DV} {h:Qa} {d:DV} (c:VCalls P g args h (QD2 d)):VCalls P g args h (Ret d):=
  ⟨fun w β vs hh ha=>(c.run w β vs hh ha).mono fun _ _ ⟨v,r,h',β',a,b,c,e,k1,k2,k3⟩=>⟨v,d,h',β',a,b,c,k3 ▸ e.wk,k1,k3 ▸ Qpy _ r k2,rfl⟩⟩
theorem Qwv:∀ (l:List PV),(∀ p ∈ l,p.wk = p)->DV.wk.go (l.map DV.pv) = l.map DV.pv
  | [],_=>rfl
  | a :: r,h=>by simp only [List.map_cons,DV.wk.go,DV.wk]; rw [h a (by simp),Qwv r fun p hp=>h p (by simp [hp])]
theorem Qa2 {α:Type} (e:Enc α) (l:List α) (h:∀ a,∀ p ∈ e.enc a,p.wk = p):DV.wk.go (cells e l) = cells e l:=by
  rw [Qew]
  refine Qwv _ fun p hp=>?_
  obtain ⟨c,hc,hp⟩:=List.mem_flatten.1 hp
  obtain ⟨a,_,rfl⟩:=List.mem_map.1 hc
  exact h a p hp
theorem QD8 (l:List Int):DV.wk.go (cells QN l) = cells QN l:=Qa2 QN l fun a p hp=>by simp [QN] at hp; subst hp; rfl
theorem Qva {p:PV}:QlS (.pv p) = []:=rfl
end Go.V
namespace Go.V
open Go.Lib
def bts (P:Program) (S T:TypeId):Bool:=match P.underlying S,P.underlying T with
  | some (.slice e),some .string=>(match P.underlying e with | some (.int .u8)=>true | _=>false)
  | _,_=>false
def QxL (hp:Qa) (off len:Nat) (b:Option (List DV)):Option (DV × Qa):=match b with
  | some cs=>if off + len<=cs.length then match Qby ((cs.drop off).take len) with
    | some l=>if l.length = len then some (.pv (.str l),hp) else none
    | none=>none
    else none
  | none=>none
theorem Qev {P:Program} {hp:Qa} {S T:TypeId} {k off len:Nat} (h:bts P S T = true):Qa3 P hp S T (.own k 1 off len) = QxL hp off len (Qf hp k):=by
  unfold bts at h
  split at h
  · rename_i e hs ht
    split at h
    · rename_i he
      unfold Qa3 Qcz QxL
      simp only [hs,ht,he,Qwg,Qlk]
      cases Qf hp k with
      | none=>rfl
      | some cs =>
        simp only [Nat.mul_one,true_and]
        by_cases hc:off + len<=cs.length
        · simp only [if_pos hc]
          cases hb:Qby ((cs.drop off).take len) with
          | none=>rfl
          | some l =>
            simp only
            by_cases hl:l.length = len
            · simp only [if_pos hl]; rfl
            · simp only [if_neg hl]; rfl
        · simp only [if_neg hc]; rfl
    · cases h
  · cases h
theorem Qjd (l:List UInt8):Qby (cells QeY l) = some l:=by
  rw [Qxa]
  induction l with
  | nil=>rfl
  | cons b l ih=>simp only [List.map_cons,Qby,ih]; simp
theorem QtX {hp:Qa} {n:Int}:QxL hp 0 1 (some [.pv (.lit (.int .u8 n))]) = some (.pv (.str [UInt8.ofNat n.toNat]),hp):=rfl
end Go.V
namespace Go.V
def aft (o:Oper) (l:List Nat):Oper:={ o with after:=(o.after.toList ++ l.map fun i=>(⟨i,.data⟩:Edge)).toArray }
def QwD (D:List (List Nat)):Nat->List Oper->List Oper
  | _,[]=>[]
  | j,o :: r=>aft o (D.getD j []) :: QwD D (j + 1) r
def tcl (ops:Array Oper) (D:List (List Nat)):Array Oper:=(QwD D 0 ops.toList).toArray
def dOk (ops:Array Oper) (D:List (List Nat)):Bool:=
  (List.range ops.size).all fun j=>(D.getD j []).all fun i=>bnd ops j i || (List.range ops.size).any fun m=>bnd ops j m && (D.getD m []).contains i
theorem QmJ (D:List (List Nat)):∀ (l:List Oper) (j i:Nat),(QwD D j l)[i]? = l[i]?.map fun o=>aft o (D.getD (j + i) [])
  | [],j,i=>by simp [QwD]
  | o :: r,j,0=>by simp [QwD]
  | o :: r,j,i + 1=>by
    simp only [QwD,List.getElem?_cons_succ]
    rw [QmJ D r (j + 1) i,Nat.add_right_comm]; rfl
theorem Qge (ops:Array Oper) (D:List (List Nat)) (i:Nat):(tcl ops D)[i]? = ops[i]?.map fun o=>aft o (D.getD i []):=by
  have:=QmJ D ops.toList 0 i
  simpa [tcl] using this
theorem QmI (D:List (List Nat)):∀ (l:List Oper) (j:Nat),(QwD D j l).length = l.length
  | [],_=>rfl
  | o :: r,j=>by simp [QwD,QmI D r]
theorem Qt7 (ops:Array Oper) (D:List (List Nat)):(tcl ops D).size = ops.size:=by simp [tcl,QmI]
section
variable {P:Program} {ops:Array Oper} {D:List (List Nat)} {Q:Exit->Act->World->Prop}
theorem Qqm (i:Nat):((tcl ops D)[i]?).bind (·.dst) = (ops[i]?).bind (·.dst):=by
  rw [Qge]; cases ops[i]?<;>rfl
theorem QlA (tmps:Array Value):yielded (tcl ops D) tmps = yielded ops tmps:=by
  funext j
  unfold yielded
  rw [Qqm]
theorem Qt6 {i:Nat} {K:Act->World->Prop} {a:Act} {w:World} (h:wpOp P (tcl ops D) Q i K a w):wpOp P ops Q i K a w:=by
  unfold wpOp at h |-
  rw [Qge] at h
  cases ho:ops[i]? with
  | none=>simpa [ho] using h
  | some o =>
    simp only [ho,Option.map_some] at h |-
    rw [QlA] at h
    exact h
def Cl (D:List (List Nat)) (L:Array Bool):Prop:=∀ j,j < L.size->L.getD j false = true->∀ i ∈ D.getD j [],L.getD i false = true
theorem QjS (hd:dOk ops D = true) {L:Array Bool} (hs:L.size = ops.size) (hc:Cl D L) (i:Nat) (h:i ∈ Region.ready .any ops L):i ∈ Region.ready .any (tcl ops D) L/\∀ m ∈ D.getD i [],L.getD m false = true:=by
  obtain ⟨h0,o,ho,hdep⟩:=mem_ready.1 h
  have hlt:i < ops.size:=(Array.getElem?_eq_some_iff.1 ho).1
  have key:∀ m ∈ D.getD i [],L.getD m false = true:=by
    intro m hm
    have h1:=List.all_eq_true.1 hd i (List.mem_range.2 hlt)
    have h2:=List.all_eq_true.1 h1 m hm
    rw [Bool.or_eq_true] at h2
    have dep:∀ x,bnd ops i x = true->L.getD x false = true:=by
      intro x hx
      unfold bnd at hx
      rw [ho] at hx
      simp only [List.any_eq_true,Bool.and_eq_true,beq_iff_eq] at hx
      obtain ⟨e,he,hb,rfl⟩:=hx
      exact hdep e (by simpa using he) hb
    rcases h2 with h2 | h2
    · exact dep m h2
    · obtain ⟨x,hx,h3⟩:=List.any_eq_true.1 h2
      rw [Bool.and_eq_true] at h3
      exact hc x (by rw [hs]; exact List.mem_range.1 hx) (dep x h3.1) m (by simpa using h3.2)
  refine ⟨mem_ready.2 ⟨h0,aft o (D.getD i []),by rw [Qge,ho]; rfl,fun e he hb=>?_⟩,key⟩
  simp only [aft,List.mem_toArray,List.mem_append,List.mem_map] at he
  rcases he with he | ⟨m,hm,rfl⟩
  · exact hdep e (by simpa using he) hb
  · exact key m hm
theorem Qd3 {L:Array Bool} (hs:L.size = ops.size) (hd:dOk ops D = true) (hc:Cl D L):(Region.ready .any ops L = [] ↔ Region.ready .any (tcl ops D) L = []):=by
  constructor
  · intro h
    apply List.eq_nil_iff_forall_not_mem.2
    intro j hj
    obtain ⟨h0,o,ho,hdep⟩:=mem_ready.1 hj
    rw [Qge] at ho
    cases hj':ops[j]? with
    | none=>rw [hj'] at ho; cases ho
    | some o' =>
      rw [hj'] at ho
      simp only [Option.map_some,Option.some.injEq] at ho
      subst ho
      have:j ∈ Region.ready .any ops L:=mem_ready.2 ⟨h0,o',hj',fun e he hb=>hdep e (by simp only [aft,List.mem_toArray,List.mem_append]; exact .inl (by simpa using he)) hb⟩
      rw [h] at this; cases this
  · intro h
    apply List.eq_nil_iff_forall_not_mem.2
    intro j hj
    have:=(QjS hd hs hc j hj).1
    rw [h] at this; cases this
theorem QjR (hd:dOk ops D = true):∀ (fuel:Nat) (L:Array Bool) (a:Act) (w:World),L.size = ops.size->Cl D L->wpAny P .any (tcl ops D) Q fuel L a w->wpAny P .any ops Q fuel L a w
  | 0,L,a,w,hs,hc,h=>⟨(Qd3 hs hd hc).2 h.1,h.2⟩
  | fuel + 1,L,a,w,hs,hc,h=>by
    refine ⟨fun hr=>h.1 ((Qd3 hs hd hc).1 hr),fun i hi=>?_⟩
    obtain ⟨h1,h2⟩:=QjS hd hs hc i hi
    refine wpOp_mono (fun a w hw=>QjR hd fuel _ a w (by simpa using hs) ?_ hw) (Qt6 (h.2 i h1))
    intro j hj hl m hm
    by_cases hji:j = i
    · subst hji
      have:=h2 m hm
      by_cases hmj:m = j
      · subst hmj; exact hl
      · rw [getD_set_ne false (Ne.symm hmj)]; exact this
    · rw [getD_set_ne false (Ne.symm hji)] at hl
      have:=hc j (by simpa using hj) hl m hm
      by_cases hmi:m = i
      · subst hmi
        have hlt:m < L.size:=by
          rcases Nat.lt_or_ge m L.size with h | h
          · exact h
          · simp [h] at this
        simp [hlt]
      · rw [getD_set_ne false (Ne.symm hmi)]; exact this
inductive SameL:List Oper->List Oper->Prop
  | nil:SameL [] []
  | cons (o:Oper) (l:List Nat) {r r':List Oper}:SameL r r'->SameL (aft o l :: r) (o :: r')
theorem Qbu:∀ (l:List Nat),SameL (pick (tcl ops D).toList l) (pick ops.toList l)
  | []=>.nil
  | i :: r=>by
    have h:(tcl ops D).toList[i]? = (ops[i]?).map fun o=>aft o (D.getD i []):=by
      have:=Qge ops D i
      simpa using this
    have h':ops.toList[i]? = ops[i]?:=by simp
    rw [pick,pick,h,h']
    cases ops[i]? with
    | none=>exact Qbu r
    | some o=>exact .cons o _ (Qbu r)
theorem QhR {S:St} {o:Oper} {l:List Nat}:QA (tcl ops D).toList S (aft o l) = QA ops.toList S o:=by
  have key:∀ j:Nat,(tcl ops D).toList[j]?.bind (·.dst) = ops.toList[j]?.bind (·.dst):=fun j=>by
    have:=Qqm (ops:=ops) (D:=D) j
    simpa using this
  unfold QA
  have e:(aft o l).guard = o.guard:=rfl
  rw [e]
  simp only [key]
theorem QiH:∀ {l' l:List Oper},SameL l' l->∀ {K K':St->Prop} {S:St},(∀ S,K S->K' S)->Qag P ops.toList l K S->Qag P (tcl ops D).toList l' K' S:=by
  intro l' l hs
  induction hs with
  | nil=>intro K K' S hk h; exact hk S h
  | cons o x _ ih =>
    intro K K' S hk h
    unfold Qag at h |-
    rw [QhR]
    refine ⟨h.1,?_⟩
    have h2:=h.2
    have e1:(aft o x).op = o.op:=rfl
    have e2:(aft o x).guard = o.guard:=rfl
    have e3:(aft o x).dst = o.dst:=rfl
    rw [e1,e2,e3]
    clear h
    generalize QA ops.toList S o = gd at h2 |-
    split at h2
    · exact h2.elim
    · exact ih hk h2
    · split at h2
      · rename_i g args hc
        exact h2.mono fun r h' q=>ih hk q
      · split at h2
        · rename_i d hp' hv
          exact ih hk h2
        · exact h2.elim
theorem Qqo {S S1:St}:∀ {l' l:List Oper},SameL l' l->QhH ops.toList S S1 l->QhH (tcl ops D).toList S S1 l':=by
  intro l' l hs
  induction hs with
  | nil=>intro h; exact h
  | cons o x _ ih =>
    intro h
    refine ⟨?_,ih h.2⟩
    rw [QhR]
    exact h.1
theorem Qqn {S:St}:∀ {l' l:List Oper},SameL l' l->Qch P S l->Qch P S l':=by
  intro l' l hs
  induction hs with
  | nil=>intro h; exact h
  | cons o x _ ih=>intro h; exact ⟨h.1,ih h.2⟩
theorem Qql {K:St->Prop}:∀ {segs:List Seg} {S:St},vsp P ops.toList segs K S->vsp P (tcl ops D).toList segs K S
  | [],S,h=>h
  | s :: r,S,h=>by
    unfold vsp at h |-
    exact ⟨Qqn (Qbu _) h.1,QiH (Qbu _) (fun S1 ⟨a,b⟩=>⟨Qqo (Qbu _) a,QiH (Qbu _) (fun S h=>Qql h) b⟩) h.2⟩
end
theorem QbE {P:Program} {ops:Array Oper} {id:Nat} {Q:Exit->St->Prop} {S:St} (D:List (List Nat)) (H0:List Nat) (segs:List Seg) (hm:P.follows .mixedOrders = true) (hd:dOk ops D = true) (hok:Qgh (tcl ops D) H0 segs = true)
    (h:Qag P ops.toList (pick ops.toList H0) (vsp P ops.toList segs (Q .normal)) S):VDraw P id ops Q S:=by
  have h':Qag P (tcl ops D).toList (pick (tcl ops D).toList H0) (vsp P (tcl ops D).toList segs (Q .normal)) S:=QiH (Qbu _) (fun S h=>Qql h) h
  intro O β a w hs
  have hw:=QeD (ops:=tcl ops D) H0 segs hok h' hs
  rw [Qt7] at hw
  refine wp_region_any hm (QjR hd _ _ _ _ (by simp) (fun j _ hl=>?_) hw)
  by_cases hj:j < ops.size<;>simp [hj] at hl
end Go.V
namespace Go.V
def Qdn:Enc (List UInt8):=⟨1,fun s=>[.str s],Nat.one_pos,fun _=>rfl⟩
theorem Qta (l:List (List UInt8)):cells Qdn l = l.map fun s=>DV.pv (.str s):=by
  induction l with
  | nil=>rfl
  | cons a r ih=>rw [QG,ih]; rfl
theorem Qo7 (l:List (List UInt8)) (i:Nat) (h:i < l.length):(cells Qdn l)[i]? = some (.pv (.str (l.getD i []))):=by
  rw [Qta,List.getElem?_map,List.getD_eq_getElem?_getD,List.getElem?_eq_getElem h]; rfl
structure C where
  l:List UInt8
  at_:Nat
  ha:at_<=l.length
  hl:l.length<=1000000
def cc (c:C):List DV:=[.pv (.sl (fz QeY c.l)),.int .i64 c.at_]
theorem Qam (c:C):DV.nums.go (fun _=>false) (cc c) = true:=rfl
theorem QiG (x n:Nat) (h:1<=n):∃ y:Nat,(x:Int).tmod n = y/\y < n:=⟨x % n,by rw [Int.ofNat_tmod],Nat.mod_lt _ h⟩
theorem Qc2 {hp:Qa} {l:List UInt8} {n:Nat} (h:l.length = n):QxL hp 0 n (some (cells QeY l)) = some (.pv (.str l),hp):=by
  subst h
  have e:((cells QeY l).drop 0).take l.length = cells QeY l:=by rw [List.drop_zero,List.take_of_length_le]; rw [Qdo]; exact Nat.le_refl _
  simp only [QxL]
  rw [if_pos (by rw [Qdo]; omega),e,Qjd]
  simp
end Go.V
namespace Go.V
theorem QcA {P:Program} {g:FuncId} {args:List DV} {h:Qa} {R:DV->Qa->Prop} {fn:Func} {c:Code} (hf:P.funcs[g]? = some fn) (hb:fn.body = some c) (hname:(fn.name == "runtime.NumGoroutine") = false) (hn:args.length<=fn.ntmps)
    (hc:VWp P c (Qcv P fn.results.toList h.length R) ⟨fn.ntmps,h.length,QfV 0 args,h⟩):VCalls P g args h R:=by
  refine QeG hf hb hname hn (fun e S hq=>?_) hc
  unfold Qcv at hq
  split at hq
  · split at hq
    · rename_i d hd; exact ⟨.inl rfl,d,hd,.inl fun _=>hq⟩
    · exact hq.elim
  · split at hq
    · rename_i d hd; exact ⟨.inr rfl,d,hd,.inl fun _=>hq⟩
    · exact hq.elim
  · exact hq.elim
theorem VWp.weak {P:Program} {c:Code} {Q:Exit->St->Prop} {S S':St} (h:VWp P c Q S') (hw:Qpu S S'):VWp P c Q S:=fun O _ a w hs=>
  let ⟨_,h'⟩:=hs.weak hw
  h O _ a w h'
def Qg3 (f:Func):Code:=match f.body with | some c=>c | none=>.skip
end Go.V
namespace Go.V
open Go.Lib
theorem Qy9 (hp:Qa) (k j:Nat):(kill hp k)[j]? = if j = k then (hp[j]?).map (fun B=>⟨B.ty,false,[]⟩) else hp[j]?:=by
  unfold kill
  split
  · rename_i B hk
    have hlt:=(List.getElem?_eq_some_iff.1 hk).1
    by_cases e:j = k
    · subst e; rw [if_pos rfl,List.getElem?_set_self hlt,hk]; rfl
    · rw [if_neg e,List.getElem?_set_ne (by omega)]
  · rename_i hk
    split
    · rename_i e; subst e; rw [hk]; rfl
    · rfl
theorem Qvz (hp:Qa) (l:List Nat) (j:Nat):(QkE hp l)[j]? = if j ∈ l then (hp[j]?).map (fun B=>⟨B.ty,false,[]⟩) else hp[j]?:=by
  induction l generalizing hp with
  | nil=>simp [QkE]
  | cons k r ih =>
    rw [QkE,ih,Qy9]
    by_cases e:j = k
    · subst e
      simp only [if_true,List.mem_cons,true_or]
      split
      · cases hp[j]?<;>rfl
      · rfl
    · simp only [List.mem_cons,e,false_or,if_false]
def Qgt (hp:Qa):List Nat->Prop
  | []=>True
  | k :: r=>(k < hp.length/\DV.nums.go (fun _=>false) (hp.getD k default).cells = true)/\Qgt hp r
theorem Qde {hp:Qa} {sel:List Nat} (h:Qgt hp sel):∀ k ∈ sel,k < hp.length/\DV.nums.go (fun _=>false) (hp.getD k default).cells = true:=by
  induction sel with
  | nil=>simp
  | cons a r ih =>
    intro k hk
    rcases List.mem_cons.1 hk with rfl | hk
    · exact h.1
    · exact ih h.2 k hk
theorem QaF {σ:Nat->Nat} {B:Blk} (hB:DV.nums.go (fun _=>false) B.cells = true):Qdt σ B = B:=by
  obtain ⟨t,lv,c⟩:=B
  simp only [Qdt]
  rw [<- DV.ren_go,Qa8 _ _ hB]
theorem Qmv {α β:Type} (l:List α) (f:α->Option β) (g:α->β) (h:∀ a ∈ l,f a = some (g a)):Qh (l.map f) = some (l.map g):=by
  induction l with
  | nil=>rfl
  | cons a r ih =>
    rw [List.map_cons,h a (by simp),List.map_cons]
    simp only [Qh]
    rw [ih fun b hb=>h b (by simp [hb])]
    rfl
theorem QcJ {hp:Qa} {sel:List Nat} (h:Qgt hp sel):QrZ hp sel = some (sel.map fun k=>hp.getD k default):=by
  refine Qmv sel _ _ fun k hk=>?_
  obtain ⟨h1,h2⟩:=Qde h k hk
  rw [List.getD_eq_getElem?_getD,List.getElem?_eq_getElem h1] at h2 |-
  simp only [Option.map_some,Option.getD_some] at h2 |-
  rw [QaF h2]
theorem QcK {hp:Qa} {sel:List Nat} (h:Qgt hp sel):Qnk hp sel = true:=by
  unfold Qnk
  rw [List.all_eq_true]
  intro k hk
  obtain ⟨h1,h2⟩:=Qde h k hk
  rw [List.getD_eq_getElem?_getD,List.getElem?_eq_getElem h1] at h2
  rw [List.getElem?_eq_getElem h1]
  simp only [Option.getD_some] at h2 |-
  rw [QU _ _ h2]; simp
end Go.V
namespace Go.V
def QtC (hp:Qa):DV->Option DV
  | .ptr k off=>match Qf hp k with
    | some cs=>(Qh ((cs.drop off).map (Qld 0 hp 4))).map .ip
    | none=>none
  | .ip cs=>some (.ip cs)
  | d=>Qcq 0 hp d
def Qpq (hp:Qa):DV->Option DV
  | .fn f a b=>match Qh (a.map (QtC hp)),Qh (b.map (QtC hp)) with
    | some a',some b'=>some (.fn f a' b')
    | _,_=>none
  | .agg cs=>(Qh (cs.map (QtC hp))).map .agg
  | d=>QtC hp d
theorem Qh8 {w:World} {β βc:Map} {hp:Qa} (hh:HeapRel w β hp) (hl:Leaves w β hp 0 (img βc [])) {d d':DV} {v:Value} (hd:RelD w β hp d v) (h:QtC hp d = some d'):RelD w βc [] d' v:=by
  unfold QtC at h
  split at h
  · rename_i k off
    split at h
    · rename_i cs hb
      obtain ⟨ps,h1,h2⟩:=Qy h
      subst h2
      obtain ⟨g1,g2⟩:=QF h1
      cases hd with
      | ptr _ _ b hk hm =>
        obtain ⟨B,C,q1,q2,q3,q4,q5,q6⟩:=QaP hh hb hm
        have each:∀ (j:Nat) (d:PV),ps[j]? = some d->off + j < C.v.size/\RelP w (img βc []) d (C.v.getD (off + j) undef):=fun j d hj=>by
          have h3:=g2 j d hj
          rw [List.getElem?_map,List.getElem?_drop] at h3
          obtain ⟨x,x1,x2⟩:=Qy h3
          have hlt:=(List.getElem?_eq_some_iff.1 x1).1
          exact ⟨by omega,QeW hh hl 4 (q6 _ _ x1).2 x2⟩
        refine .ip ps ⟨b,off,none⟩ (fun j=>C.v.getD (off + j) undef) rfl (fun j d hj=>⟨?_,?_,?_⟩) (fun j d hj=>(each j d hj).2)
        · exact (Array.getElem?_eq_some_iff.1 q4).1
        · exact hl.off k B b (Nat.zero_le _) q1 q2 hm
        · exact Q4 q4 (each j d hj).1
    · cases h
  · rename_i cs
    simp at h
    subst h
    cases hd with
    | ip _ ad val h1 h2 h3 =>
      exact .ip cs ad val h1 (fun j d hd=>⟨(h2 j d hd).1,fun x=>(h2 j d hd).2.1 (hl.sub _ x),(h2 j d hd).2.2⟩) (fun j d hd=>(h3 j d hd).mono (Nat.le_refl _) (fun _ _ _=>rfl) (fun b _=>hl.sub b))
  · exact Qb1 (β':=βc) (hp':=[]) hh hl (fun k hk=>absurd hk (Nat.not_lt_zero _)) (Nat.zero_le _) hd h
theorem QdO {w:World} {β βc:Map} {hp:Qa} (hh:HeapRel w β hp) (hl:Leaves w β hp 0 (img βc [])) {ds ds':List DV} {n:Nat} {f:Nat->Value} (hn:ds.length = n) (hd:∀ i d,ds[i]? = some d->RelD w β hp d (f i)) (h:Qh (ds.map (QtC hp)) = some ds'):ds'.length = n/\∀ i d,ds'[i]? = some d->RelD w βc [] d (f i):=by
  obtain ⟨h1,h2⟩:=QF h
  refine ⟨by rw [h1,List.length_map,hn],fun i d hi=>?_⟩
  have h3:=h2 i d hi
  rw [List.getElem?_map] at h3
  obtain ⟨x,x1,x2⟩:=Qy h3
  exact Qh8 hh hl (hd i x x1) x2
theorem Qh9 {w:World} {β βc:Map} {hp:Qa} (hh:HeapRel w β hp) (hl:Leaves w β hp 0 (img βc [])) {d d':DV} {v:Value} (hd:RelD w β hp d v) (h:Qpq hp d = some d'):RelD w βc [] d' v:=by
  unfold Qpq at h
  split at h
  · rename_i f a b
    split at h
    · rename_i a' b' ha hb
      simp at h
      subst h
      cases hd with
      | fn _ _ _ vs us h1 h2 h3 h4 =>
        obtain ⟨p1,p2⟩:=QdO hh hl h1 h3 ha
        obtain ⟨q1,q2⟩:=QdO hh hl h2 h4 hb
        exact .fn f a' b' vs us p1 q1 p2 q2
    · cases h
  · rename_i cs
    obtain ⟨ds,h1,h2⟩:=Qy h
    subst h2
    cases hd with
    | agg _ vs g1 g2 =>
      obtain ⟨p1,p2⟩:=QdO hh hl g1 g2 h1
      exact .agg _ _ p1 p2
  · exact Qh8 hh hl hd h
theorem VCalls.lendA {P:Program} {g:FuncId} {args args0:List DV} {hp:Qa} {R:DV->Prop} (ha:Qh (args.map (Qpq hp)) = some args0) (c:VCalls P g args0 [] fun r h'=>h' = []/\r.flat = true/\R r) :
    VCalls P g args hp fun r h'=>h' = hp/\R r:=by
  refine ⟨fun w β vs hh hr=>?_⟩
  let βc:Map:=⟨fun _=>none,β.X⟩
  have himc:∀ b,img βc [] b->β.X b:=fun b hb=>by
    rcases hb with hb | ⟨i,D,h1,_⟩
    · exact hb
    · simp at h1
  have hlv:Leaves w β hp 0 (img βc []):=⟨fun b hb=>.inl (himc b hb),fun k B b _ h1 h2 h3 hb=>hh.avoid k B b h1 h2 h3 (himc b hb)⟩
  have hhc:HeapRel w βc []:=⟨by simp,by simp,by simp,by simp,hh.bound⟩
  obtain ⟨a1,a2⟩:=QF ha
  have hargs:RelL w βc [] args0 vs:=by
    refine ⟨by rw [a1]; simpa using hr.1,fun i d hd=>?_⟩
    have h3:=a2 i d hd
    rw [List.getElem?_map] at h3
    obtain ⟨x,x1,x2⟩:=Qy h3
    exact Qh9 hh hlv (hr.2 i x x1) x2
  refine (c.run w βc vs hhc hargs).mono ?_
  rintro e w' ⟨v,r,h',β',rfl,ev,hh',hrel,rfl,hf,hR⟩
  have heap_same:∀ b,b < w.heap.size->w'.heap[b]? = w.heap[b]?:=fun b hb=>ev.same b hb (by rintro ⟨k,B,h1,_⟩; simp at h1)
  have e:Evo w β hp w' β hp:=⟨ev.os,ev.tape,ev.output,ev.size,Nat.le_refl _,fun _ _=>rfl,fun b hb _=>heap_same b hb,fun b C T m h=>⟨C,m,by rw [heap_same b (Array.getElem?_eq_some_iff.1 h).1]; exact h,rfl⟩,fun _ _ h=>h,rfl⟩
  refine ⟨v,r,hp,β,rfl,e,?_,hrel.flat hf,rfl,hR⟩
  refine ⟨fun k B b h1 h2 h3=>?_,hh.none,hh.inj,hh.avoid,fun b hb=>Nat.lt_of_lt_of_le (hh.bound b hb) ev.size⟩
  obtain ⟨C,g1,g2,g3⟩:=hh.blk k B b h1 h2 h3
  exact ⟨C,by rw [heap_same b (Array.getElem?_eq_some_iff.1 g1).1]; exact g1,g2,fun i d hd=>⟨(g3 i d hd).1,(g3 i d hd).2.mono e⟩⟩
theorem Qt0 {P:Program} {g:FuncId} {args args0:List DV} {hp:Qa} {K:DV->Qa->Prop} {d:DV} (c:VCalls P g args0 [] (Ret d)) (ha:Qh (args.map (Qpq hp)) = some args0) (hf:d.flat = true) (h:K d hp):VCalls P g args hp K:=
  (VCalls.lendA (R:=fun r=>r = d) ha (c.mono fun r h' e=>⟨e.1,e.2.2 ▸ hf,e.2.2⟩)).mono fun r h' e=>by obtain ⟨rfl,rfl⟩:=e; exact h
theorem QjU {α:Type} (e:Enc α) (l m:List α) (i:Nat):splice (cells e l) (i * e.sz) (cells e m) = cells e (l.take i ++ m ++ l.drop (i + m.length)):=by
  unfold splice
  rw [Qo4,QS,<- Nat.add_mul,Qo6,QE,QE]
def QDY (f:Fn) (a b:Option (List DV)):Option DV:=match a,b with | some a',some b'=>some (.fn f a' b') | _,_=>none
theorem QvT {hp:Qa} {cs:List DV}:Qpq hp (.agg cs) = (Qh (cs.map (QtC hp))).map .agg:=rfl
theorem Qsu {hp:Qa} {k sz off len:Nat}:Qpq hp (.own k sz off len) = Qcq 0 hp (.own k sz off len):=rfl
theorem Qst {hp:Qa} {k sz off len:Nat}:QtC hp (.own k sz off len) = Qcq 0 hp (.own k sz off len):=rfl
theorem QzD {hp:Qa} {p:PV}:Qpq hp (.pv p) = some (.pv p):=rfl
theorem QzC {hp:Qa} {p:PV}:QtC hp (.pv p) = some (.pv p):=rfl
end Go.V
namespace Go.V
theorem Qn4 {O:Org} {β:Map} {S:St} {a:Act} {w:World} (h:Sim O β S a w) (t:Nat) (T:TypeId) (sz:Nat) (ht:look S.tm t = .pv (.slc [])) :
    ∃ β',Sim O β' ⟨S.nt,S.base,(t,.own S.hp.length sz 0 0) :: S.tm,S.hp ++ [⟨T,true,[]⟩]⟩ a w:=by
  have e:Evo w β S.hp w (ext β S.hp.length none) (S.hp ++ [(⟨T,true,[]⟩:Blk)]):=by
    refine ⟨rfl,rfl,rfl,Nat.le_refl _,by simp,fun j hj=>QaN hj,fun _ _ _=>rfl,fun _ C _ m h=>⟨C,m,h,rfl⟩,fun b _ hb=>?_,rfl⟩
    obtain ⟨j,D,g1,g2,g3⟩:=hb
    rcases Nat.lt_trichotomy j S.hp.length with hlt | heq | hgt
    · rw [List.getElem?_append_left hlt] at g1; rw [QaN hlt] at g3; exact ⟨j,D,g1,g2,g3⟩
    · subst heq; simp [ext] at g3
    · rw [List.getElem?_append_right (by omega),List.getElem?_eq_none (by simp; omega)] at g1; simp at g1
  refine ⟨_,h.defers,h.size,fun u=>?_,QcF h.heap rfl e (by simp) (fun _=>rfl) (fun _ _=>rfl),h.evo.trans e,h.base⟩
  simp only [look]
  split
  · rename_i hu
    have:=h.tm t
    rw [ht] at this
    rw [<- hu]
    generalize a.tmps.getD t undef = v at this
    cases this with
    | pv _ _ hp0=>cases hp0 with
      | slc _ ad sz2 val h1 h2 h3 h4 h5=>exact .own0 _ _ ad (by simp) (by simp [ext]) trivial
  · exact (h.tm u).mono e
theorem VWp.nilOwn {P:Program} {c:Code} {Q:Exit->St->Prop} {S:St} (t:Nat) (T:TypeId) (sz:Nat) (ht:look S.tm t = .pv (.slc [])) (h:VWp P c Q ⟨S.nt,S.base,(t,.own S.hp.length sz 0 0) :: S.tm,S.hp ++ [⟨T,true,[]⟩]⟩):VWp P c Q S:=fun O β a w hs=>
  let ⟨_,h'⟩:=Qn4 hs t T sz ht
  h O _ a w h'
theorem VLoop.nilOwn {P:Program} {c:Code} {Q:Exit->St->Prop} {S:St} (t:Nat) (T:TypeId) (sz:Nat) (ht:look S.tm t = .pv (.slc [])) (h:VLoop P c Q ⟨S.nt,S.base,(t,.own S.hp.length sz 0 0) :: S.tm,S.hp ++ [⟨T,true,[]⟩]⟩):VLoop P c Q S:=VWp.nilOwn t T sz ht h
end Go.V
namespace Go.V
open Go
theorem VCalls.wkA {P:Program} {g:FuncId} {args:List DV} {hp:Qa} {R:DV->Qa->Prop} (c:VCalls P g (DV.wk.go args) hp R):VCalls P g args hp R:=
  ⟨fun w β vs hh ha=>c.run w β vs hh ⟨by rw [QZ,List.length_map]; exact ha.1,fun i d hd=>by
    rw [QZ,List.getElem?_map] at hd
    obtain ⟨x,h1,h2⟩:=Qy hd
    subst h2
    exact (ha.2 i x h1).wk⟩⟩
end Go.V
namespace Go.V
open Go
structure Cut (h h':Qa):Prop where
  len:h'.length = h.length
  at_:∀ (k:Nat) (B:Blk),h[k]? = some B->∃ B',h'[k]? = some B'/\B'.ty = B.ty/\B'.live = B.live/\∃ t,B.cells = B'.cells ++ t
theorem Cut.back {h h':Qa} (c:Cut h h') {k:Nat} {B':Blk} (hk:h'[k]? = some B'):∃ B,h[k]? = some B/\B'.ty = B.ty/\B'.live = B.live/\∃ t,B.cells = B'.cells ++ t:=by
  have hlt:k < h.length:=by rw [<- c.len]; exact (List.getElem?_eq_some_iff.1 hk).1
  obtain ⟨B2,g1,g2⟩:=c.at_ k h[k] (List.getElem?_eq_getElem hlt)
  rw [hk] at g1
  cases g1
  exact ⟨h[k],List.getElem?_eq_getElem hlt,g2⟩
theorem Cut.live {h h':Qa} (c:Cut h h') {β:Map} {b:Nat}:live β h' b ↔ live β h b:=by
  constructor
  · rintro ⟨k,B,h1,h2,h3⟩
    obtain ⟨B2,g1,_,g3,_⟩:=c.back h1
    exact ⟨k,B2,g1,g3 ▸ h2,h3⟩
  · rintro ⟨k,B,h1,h2,h3⟩
    obtain ⟨B2,g1,_,g3,_⟩:=c.at_ k B h1
    exact ⟨k,B2,g1,g3.trans h2,h3⟩
theorem Cut.evo {h h':Qa} (c:Cut h h') (w:World) (β:Map):Evo w β h w β h':=
  ⟨rfl,rfl,rfl,Nat.le_refl _,by rw [c.len]; exact Nat.le_refl _,fun _ _=>rfl,fun _ _ _=>rfl,fun _ C _ m e=>⟨C,m,e,rfl⟩,fun _ _ l=>c.live.1 l,rfl⟩
theorem Cut.heap {h h':Qa} (c:Cut h h') {w:World} {β:Map} (hh:HeapRel w β h):HeapRel w β h':=by
  refine ⟨fun k B b h1 h2 h3=>?_,fun k B h1 h2 h3=>?_,fun j k B B' b h1 h2 h3 h4 h5 h6=>?_,fun k B b h1 h2 h3=>?_,hh.bound⟩
  · obtain ⟨B2,g1,g2,g3,t,g4⟩:=c.back h1
    obtain ⟨C,e1,e2,e3⟩:=hh.blk k B2 b g1 (g3 ▸ h2) h3
    refine ⟨C,g2 ▸ e1,by rw [g4,List.length_append] at e2; omega,fun i d hd=>?_⟩
    have:B2.cells[i]? = some d:=by rw [g4,List.getElem?_append_left (List.getElem?_eq_some_iff.1 hd).1]; exact hd
    exact ⟨(e3 i d this).1,(e3 i d this).2.mono (c.evo w β)⟩
  · obtain ⟨B2,g1,g2,g3,t,g4⟩:=c.back h1
    have:=hh.none k B2 g1 (g3 ▸ h2) h3
    rw [g4] at this
    exact (List.append_eq_nil_iff.1 this).1
  · obtain ⟨B2,g1,_,g3,_⟩:=c.back h1
    obtain ⟨B3,i1,_,i3,_⟩:=c.back h2
    exact hh.inj j k B2 B3 b g1 i1 (g3 ▸ h3) (i3 ▸ h4) h5 h6
  · obtain ⟨B2,g1,_,g3,_⟩:=c.back h1
    exact hh.avoid k B2 b g1 (g3 ▸ h2) h3
theorem VCalls.cut {P:Program} {g:FuncId} {args:List DV} {h:Qa} {R R':DV->Qa->Prop} (c:VCalls P g args h R) (hr:∀ r h',R r h'->∃ h'',Cut h' h''/\R' r h''):VCalls P g args h R':=
  ⟨fun w β vs hh ha=>(c.run w β vs hh ha).mono fun _ w' ⟨v,r,h',β',e1,ev,hh',hd,hR⟩=>by
    obtain ⟨h'',hc,hR'⟩:=hr r h' hR
    exact ⟨v,r,h'',β',e1,ev.trans (hc.evo w' β'),hc.heap hh',hd.mono (hc.evo w' β'),hR'⟩⟩
theorem Cut.refl (h:Qa):Cut h h:=⟨rfl,fun k B hk=>⟨B,hk,rfl,rfl,[],by simp⟩⟩
theorem Cut.last (h:Qa) (T:TypeId) (b:Bool) (cs t:List DV):Cut (h ++ [⟨T,b,cs ++ t⟩]) (h ++ [⟨T,b,cs⟩]):=by
  refine ⟨by simp,fun k B hk=>?_⟩
  rcases Nat.lt_trichotomy k h.length with hlt | heq | hgt
  · rw [List.getElem?_append_left hlt] at hk |-
    exact ⟨B,hk,rfl,rfl,[],by simp⟩
  · subst heq
    simp only [List.getElem?_concat_length,Option.some.injEq] at hk |-
    subst hk
    exact ⟨_,rfl,rfl,rfl,t,rfl⟩
  · rw [List.getElem?_eq_none (by simp; omega)] at hk; cases hk
end Go.V
namespace Go.V
open Go
structure Gm (keep:List Nat) (S S':St):Prop where
  nt:S'.nt = S.nt
  base:S'.base = S.base
  low:∀ k,k < S.base->∃ B,S'.hp[k]? = some B/\B.live = false
  nodup:keep.Nodup
  len:S'.hp.length = S.base + keep.length
  hp:∀ (i k:Nat),keep[i]? = some k->∃ B B',S.hp[k]? = some B/\S'.hp[S.base + i]? = some B'/\B'.ty = B.ty/\B'.live = B.live/\B'.cells = B.cells.map (DV.ren fun k=>S.base + keep.idxOf k)/\(B.live = true->DV.nums.go keep.contains B.cells = true)
  tm:∀ t,V.look S'.tm t = .any\/(V.look S'.tm t = (V.look S.tm t).ren (fun k=>S.base + keep.idxOf k)/\(V.look S.tm t).nums keep.contains = true)
theorem Sim.gm {O:Org} {β:Map} {S S':St} {a:Act} {w:World} {keep:List Nat} (h:Sim O β S a w) (g:Gm keep S S'):∃ β',Sim O β' S' a w:=by
  let β':Map:=⟨fun i=>if i < S.base then β.f i else (keep[i - S.base]?).bind β.f,β.X⟩
  have hO:O.hp.length = S.base:=h.base
  have back:∀ {i:Nat} {B':Blk},S'.hp[i]? = some B'->B'.live = true->∃ k B,S.base<=i/\keep[i - S.base]? = some k/\S.hp[k]? = some B/\B'.ty = B.ty/\B'.live = B.live/\B'.cells = B.cells.map (DV.ren fun k=>S.base + keep.idxOf k)/\(B.live = true->DV.nums.go keep.contains B.cells = true)/\β'.f i = β.f k:=by
    intro i B' hi hl
    have hge:S.base<=i:=by
      rcases Nat.lt_or_ge i S.base with hlt | hge
      · obtain ⟨B,h1,h2⟩:=g.low i hlt
        rw [hi] at h1; cases h1; rw [hl] at h2; cases h2
      · exact hge
    have hlt:i - S.base < keep.length:=by have:=(List.getElem?_eq_some_iff.1 hi).1; rw [g.len] at this; omega
    have hk:keep[i - S.base]? = some keep[i - S.base]:=List.getElem?_eq_getElem hlt
    obtain ⟨B,B'',h1,h2,h3,h4,h5,h6⟩:=g.hp _ _ hk
    rw [show S.base + (i - S.base) = i by omega,hi] at h2
    cases h2
    exact ⟨_,B,hge,hk,h1,h3,h4,h5,h6,by simp [β',hk]; omega⟩
  have hsub:∀ b,live β' S'.hp b->live β S.hp b:=by
    rintro b ⟨i,B',h1,h2,h3⟩
    obtain ⟨k,B,_,_,k2,_,k4,_,_,k7⟩:=back h1 h2
    exact ⟨k,B,k2,by rw [<- k4]; exact h2,by rw [<- k7]; exact h3⟩
  have him:∀ b,img β' S'.hp b->img β S.hp b:=fun b hb=>hb.imp id (hsub b)
  have hσ:∀ k,keep.contains k = true->k < S.hp.length->S.base + keep.idxOf k < S'.hp.length/\β'.f (S.base + keep.idxOf k) = β.f k:=by
    intro k hk _
    have hm:k ∈ keep:=by simpa using hk
    have hlt:=List.idxOf_lt_length_of_mem hm
    refine ⟨by rw [g.len]; omega,?_⟩
    have hnl:¬ S.base + List.idxOf k keep < S.base:=by omega
    simp [β',List.getElem?_eq_getElem hlt,hnl]
  refine ⟨β',h.defers,by rw [g.nt]; exact h.size,fun t=>?_,?_,?_,h.base.trans g.base.symm⟩
  · rcases g.tm t with e | ⟨e,hn⟩
    · rw [e]; exact .any _
    · rw [e]; exact RelD.ren hσ him (h.tm t) hn
  · have hh:=h.heap
    refine ⟨fun i B' b h1 h2 h3=>?_,fun i B' h1 h2 h3=>?_,fun i j B B' b h1 h2 h3 h4 h5 h6=>?_,fun i B' b h1 h2 h3=>?_,hh.bound⟩
    · obtain ⟨k,B,_,k1,k2,k3,k4,k5,k6,k7⟩:=back h1 h2
      rw [k7] at h3
      have hl:B.live = true:=by rw [<- k4]; exact h2
      obtain ⟨C,c1,c2,c3⟩:=hh.blk k B b k2 hl h3
      refine ⟨C,by rw [k3]; exact c1,by rw [k5,List.length_map]; exact c2,fun j d hd=>?_⟩
      rw [k5,List.getElem?_map] at hd
      cases hx:B.cells[j]? with
      | none=>simp [hx] at hd
      | some x =>
        simp [hx] at hd
        subst hd
        obtain ⟨o1,o2⟩:=c3 j x hx
        refine ⟨?_,RelD.ren hσ him o2 (DV.nums_go (k6 hl) j x hx)⟩
        cases x<;>first | rfl | exact o1
    · obtain ⟨k,B,_,k1,k2,k3,k4,k5,k6,k7⟩:=back h1 h2
      rw [k7] at h3
      rw [k5,hh.none k B k2 (by rw [<- k4]; exact h2) h3]; rfl
    · obtain ⟨k,D,g1,k1,k2,k3,k4,k5,k6,k7⟩:=back h1 h3
      obtain ⟨k',D',g2,l1,l2,l3,l4,l5,l6,l7⟩:=back h2 h4
      rw [k7] at h5
      rw [l7] at h6
      have:=hh.inj k k' D D' b k2 l2 (by rw [<- k4]; exact h3) (by rw [<- l4]; exact h4) h5 h6
      subst this
      obtain ⟨hi,e1⟩:=List.getElem?_eq_some_iff.1 k1
      obtain ⟨hj,e2⟩:=List.getElem?_eq_some_iff.1 l1
      have:=(List.getElem_inj g.nodup).1 (e1.trans e2.symm)
      omega
    · obtain ⟨k,B,_,k1,k2,k3,k4,k5,k6,k7⟩:=back h1 h2
      rw [k7] at h3
      exact hh.avoid k B b k2 (by rw [<- k4]; exact h2) h3
  · have ev:=h.evo
    have hlow:∀ k,k < O.hp.length->β'.f k = β.f k:=fun k hk=>by simp [β',show k < S.base by omega]
    exact ⟨ev.os,ev.tape,ev.output,ev.size,by rw [g.len]; omega,fun k hk=>(hlow k hk).trans (ev.beta k hk),ev.same,ev.shape,fun b hb hl=>ev.im b hb (hsub b hl),ev.X⟩
def QCN (n:Nat) (keep:List Nat) (tm:List (Nat × DV)):List (Nat × DV)->Prop
  | []=>True
  | (t,d) :: r=>(d = (V.look tm t).ren (fun k=>n + keep.idxOf k)/\(V.look tm t).nums keep.contains = true)/\QCN n keep tm r
theorem QjP {n:Nat} {keep:List Nat} {tm:List (Nat × DV)}:∀ {tm':List (Nat × DV)},QCN n keep tm tm'->∀ t,V.look tm' t = .any\/(V.look tm' t = (V.look tm t).ren (fun k=>n + keep.idxOf k)/\(V.look tm t).nums keep.contains = true)
  | [],_,t=>.inl rfl
  | (a,d) :: r,h,t=>by
    simp only [V.look]
    split
    · rename_i e; subst e; exact .inr h.1
    · exact QjP h.2 t
def QzX (n:Nat) (keep:List Nat) (cs cs':List DV):Prop:=(DV.nums.go (fun _=>false) cs = true/\cs' = cs)\/(cs' = cs.map (DV.ren fun k=>n + keep.idxOf k)/\DV.nums.go keep.contains cs = true)
def QCS (n:Nat) (keep:List Nat) (hp:Qa):List Nat->Qa->Prop
  | [],[]=>True
  | k :: r,B' :: r'=>(∃ B,hp[k]? = some B/\B'.ty = B.ty/\B'.live = B.live/\QzX n keep B.cells B'.cells)/\QCS n keep hp r r'
  | _,_=>False
theorem Qnp {n:Nat} {keep:List Nat} {hp:Qa}:∀ {l:List Nat} {hp':Qa},QCS n keep hp l hp'->hp'.length = l.length/\∀ (i k:Nat),l[i]? = some k->∃ B B',hp[k]? = some B/\hp'[i]? = some B'/\B'.ty = B.ty/\B'.live = B.live/\B'.cells = B.cells.map (DV.ren fun k=>n + keep.idxOf k)/\(B.live = true->DV.nums.go keep.contains B.cells = true)
  | [],[],_=>⟨rfl,fun i k h=>by simp at h⟩
  | [],_ :: _,h=>h.elim
  | _ :: _,[],h=>h.elim
  | k0 :: r,B' :: r',h=>by
    obtain ⟨⟨B,h1,h2,h3,h4⟩,h5⟩:=h
    obtain ⟨g1,g2⟩:=Qnp h5
    refine ⟨by simp [g1],fun i k hk=>?_⟩
    cases i with
    | zero =>
      simp at hk
      subst hk
      refine ⟨B,B',h1,rfl,h2,h3,?_⟩
      rcases h4 with ⟨n,e⟩ | ⟨e,n⟩
      · exact ⟨by rw [e,<- DV.ren_go,Qa8 _ _ n],fun _=>QU _ _ n⟩
      · exact ⟨e,fun _=>n⟩
    | succ i=>exact g2 i k (by simpa using hk)
def QgV:List TypeId->Qa:=List.map fun T=>⟨T,false,[]⟩
theorem VWp.move {P:Program} {c:Code} {Q:Exit->St->Prop} {S:St} (keep:List Nat) (Ts:List TypeId) (tm':List (Nat × DV)) (hp':Qa) (hb:Ts.length = S.base) (hn:keep.Nodup) (hh:QCS S.base keep S.hp keep hp') (ht:QCN S.base keep S.tm tm') (h:VWp P c Q ⟨S.nt,S.base,tm',QgV Ts ++ hp'⟩):VWp P c Q S:=fun O β a w hs=>by
  obtain ⟨g1,g2⟩:=Qnp hh
  have hl:(QgV Ts).length = S.base:=by simp [QgV,hb]
  obtain ⟨β',h'⟩:=hs.gm (keep:=keep) (S':=⟨S.nt,S.base,tm',QgV Ts ++ hp'⟩) ⟨rfl,rfl,fun k hk=>by
    have hlt:k < (QgV Ts).length:=by omega
    refine ⟨(QgV Ts)[k],by show (QgV Ts ++ hp')[k]? = _; rw [List.getElem?_append_left hlt,List.getElem?_eq_getElem hlt],by simp [QgV]⟩,hn,by show (QgV Ts ++ hp').length = _; rw [List.length_append,hl,g1],fun i k hk=>by
    obtain ⟨B,B',e1,e2,e3⟩:=g2 i k hk
    exact ⟨B,B',e1,by show (QgV Ts ++ hp')[S.base + i]? = _; rw [List.getElem?_append_right (by omega),hl,show S.base + i - S.base = i by omega]; exact e2,e3⟩,QjP ht⟩
  exact h O β' a w h'
theorem VLoop.move {P:Program} {c:Code} {Q:Exit->St->Prop} {S:St} (keep:List Nat) (Ts:List TypeId) (tm':List (Nat × DV)) (hp':Qa) (hb:Ts.length = S.base) (hn:keep.Nodup) (hh:QCS S.base keep S.hp keep hp') (ht:QCN S.base keep S.tm tm') (h:VLoop P c Q ⟨S.nt,S.base,tm',QgV Ts ++ hp'⟩):VLoop P c Q S:=VWp.move keep Ts tm' hp' hb hn hh ht h
end Go.V
namespace Go.V
open Go
def QCP (n:Nat) (hp:Qa) (tm:List (Nat × DV)):List (Nat × DV)->Prop
  | []=>True
  | (t,d) :: r=>frz n hp (V.look tm t) = some d/\QCP n hp tm r
theorem Qgd {n:Nat} {hp:Qa} {tm:List (Nat × DV)}:∀ {tm':List (Nat × DV)},QCP n hp tm tm'->∀ t,V.look tm' t = .any\/frz n hp (V.look tm t) = some (V.look tm' t)
  | [],_,t=>.inl rfl
  | (a,d) :: r,h,t=>by
    simp only [V.look]
    split
    · rename_i e; subst e; exact .inr h.1
    · exact Qgd h.2 t
structure Fz (S S':St):Prop where
  nt:S'.nt = S.nt
  base:S'.base = S.base
  hp:Qbc S.base S.hp = some S'.hp
  tm:QCP S.base S.hp S.tm S'.tm
theorem Sim.fz {O:Org} {β:Map} {S S':St} {a:Act} {w:World} (h:Sim O β S a w) (g:Fz S S'):Sim O β S' a w:=by
  have hn:S.base<=S.hp.length:=by rw [<- h.base]; exact h.evo.len
  have one:∀ {d:DV} {v:Value} {d':DV},RelD w β S.hp d v->frz S.base S.hp d = some d'->RelD w β S'.hp d' v/\HeapRel w β S'.hp/\S'.hp.length = S.base/\∀ b,live β S'.hp b->live β S.hp b:=by
    intro d v d' hd hf
    obtain ⟨e,hp',⟨r1,r2⟩,k2,k3,k4,k5⟩:=Qc1 h.heap hn hd (R:=fun e hp'=>e = d'/\hp' = S'.hp) (by unfold Qtw; rw [hf,g.hp]; exact ⟨rfl,rfl⟩)
    subst r1 r2
    exact ⟨k2,k3,k4,k5⟩
  obtain ⟨_,k3,k4,k5⟩:=one (d:=.any) (v:=undef) (d':=.any) (.any _) rfl
  refine ⟨h.defers,by rw [g.nt]; exact h.size,fun t=>?_,k3,?_,h.base.trans g.base.symm⟩
  · rcases Qgd g.tm t with e | e
    · rw [e]; exact .any _
    · exact (one (h.tm t) e).1
  · have ev:=h.evo
    exact ⟨ev.os,ev.tape,ev.output,ev.size,by rw [k4,<- h.base]; exact Nat.le_refl _,ev.beta,ev.same,ev.shape,fun b hb hl=>ev.im b hb (k5 b hl),ev.X⟩
theorem VWp.fz {P:Program} {c:Code} {Q:Exit->St->Prop} {S:St} (S':St) (g:Fz S S') (h:VWp P c Q S'):VWp P c Q S:=fun O β a w hs=>h O β a w (hs.fz g)
theorem VLoop.fz {P:Program} {c:Code} {Q:Exit->St->Prop} {S:St} (S':St) (g:Fz S S') (h:VLoop P c Q S'):VLoop P c Q S:=VWp.fz S' g h
end Go.V
namespace Go.V
open Go
theorem VCalls.giveA {P:Program} {g:FuncId} {args args0:List DV} {hp:Qa} {R:DV->Prop} (ha:Qh (args.map (Qpq hp)) = some args0) (c:VCalls P g args0 [] fun r h'=>h' = []/\r.nums (fun _=>false) = true/\R r) :
    VCalls P g args hp fun r h'=>h' = hp.map (fun B=>⟨B.ty,false,[]⟩)/\R r:=by
  refine ⟨fun w β vs hh hr=>?_⟩
  let βc:Map:=⟨fun _=>none,β.X⟩
  have himc:∀ b,img βc [] b->β.X b:=fun b hb=>by
    rcases hb with hb | ⟨i,D,h1,_⟩
    · exact hb
    · simp at h1
  have hlv:Leaves w β hp 0 (img βc []):=⟨fun b hb=>.inl (himc b hb),fun k B b _ h1 h2 h3 hb=>hh.avoid k B b h1 h2 h3 (himc b hb)⟩
  have hhc:HeapRel w βc []:=⟨by simp,by simp,by simp,by simp,hh.bound⟩
  obtain ⟨a1,a2⟩:=QF ha
  have hargs:RelL w βc [] args0 vs:=by
    refine ⟨by rw [a1]; simpa using hr.1,fun i d hd=>?_⟩
    have h3:=a2 i d hd
    rw [List.getElem?_map] at h3
    obtain ⟨x,x1,x2⟩:=Qy h3
    exact Qh9 hh hlv (hr.2 i x x1) x2
  refine (c.run w βc vs hhc hargs).mono ?_
  rintro e w' ⟨v,r,h',β',rfl,ev,hh',hrel,rfl,hf,hR⟩
  have heap_same:∀ b,b < w.heap.size->w'.heap[b]? = w.heap[b]?:=fun b hb=>ev.same b hb (by rintro ⟨k,B,h1,_⟩; simp at h1)
  have dead:∀ (k:Nat) (B:Blk),(hp.map (fun B=>(⟨B.ty,false,[]⟩:Blk)))[k]? = some B->B.live = false:=fun k B hk=>by
    rw [List.getElem?_map] at hk
    obtain ⟨x,_,x2⟩:=Qy hk
    subst x2; rfl
  have nolive:∀ b,¬ live β (hp.map (fun B=>(⟨B.ty,false,[]⟩:Blk))) b:=by
    rintro b ⟨k,B,h1,h2,_⟩
    rw [dead k B h1] at h2; cases h2
  have e:Evo w β hp w' β (hp.map (fun B=>⟨B.ty,false,[]⟩)):=⟨ev.os,ev.tape,ev.output,ev.size,by simp,fun _ _=>rfl,fun b hb _=>heap_same b hb,fun b C T m h=>⟨C,m,by rw [heap_same b (Array.getElem?_eq_some_iff.1 h).1]; exact h,rfl⟩,fun b _ h=>absurd h (nolive b),rfl⟩
  refine ⟨v,r,_,β,rfl,e,?_,hrel.closed hf ?_,rfl,hR⟩
  · refine ⟨fun k B b h1 h2 h3=>?_,fun k B h1 h2 h3=>?_,fun i j B B' b h1 h2 h3=>?_,fun k B b h1 h2 h3=>?_,fun b hb=>Nat.lt_of_lt_of_le (hh.bound b hb) ev.size⟩
    · rw [dead k B h1] at h2; cases h2
    · rw [dead k B h1] at h2; cases h2
    · rw [dead i B h1] at h3; cases h3
    · rw [dead k B h1] at h2; cases h2
  · rintro b (hb | hb)
    · exact .inl (by rw [ev.X]; exact hb)
    · exact absurd hb (nolive b)
theorem Qfm {hp:Qa} {sel:List Nat} (hlt:∀ k ∈ sel,k < hp.length):QT hp sel ((sel.map fun k=>hp.getD k default).map (fun B=>⟨B.ty,false,[]⟩)) = QkE hp sel:=by
  unfold QT
  rw [List.drop_of_length_le (by simp),List.map_nil,List.append_nil]
  apply List.ext_getElem?
  intro k
  rw [Qvz,List.getElem?_map]
  by_cases hk:k < hp.length
  · rw [List.getElem?_range hk,Option.map_some]
    have hget:hp[k]? = some hp[k]:=List.getElem?_eq_getElem hk
    by_cases hm:k ∈ sel
    · have hc:sel.contains k = true:=by simpa using hm
      have hi:=List.idxOf_lt_length_of_mem hm
      rw [if_pos hc,if_pos hm,hget,Option.map_some]
      congr 1
      rw [List.getD_eq_getElem?_getD,List.getElem?_map,List.getElem?_map,List.getElem?_eq_getElem hi]
      simp [Qdt,hget]
    · have hc:sel.contains k = false:=by simpa using hm
      rw [if_neg (by rw [hc]; simp),if_neg hm,List.getD_eq_getElem?_getD,hget]; rfl
  · rw [List.getElem?_eq_none (l:=List.range hp.length) (by simpa using hk),List.getElem?_eq_none (l:=hp) (by omega)]
    simp
theorem QfG {P:Program} {g:FuncId} {args args0:List DV} {hp:Qa} {K:DV->Qa->Prop} {d:DV} (sel:List Nat) (args1:List DV) (h0:Qa) (c:VCalls P g args0 [] (Ret d)) (hh0:h0 = sel.map fun k=>hp.getD k default) (hpl:Qgt hp sel) (hnd:sel.Nodup)
    (ha1:args1 = args.map (DV.ren fun j=>sel.idxOf j)) (ha:DV.nums.go sel.contains args = true) (hf:Qh (args1.map (Qpq h0)) = some args0)
    (h:K d (QkE hp sel)):VCalls P g args hp K:=by
  subst hh0
  have c1:=VCalls.giveA (R:=fun r=>r.nums (fun _=>false) = true/\r = d) hf (c.mono fun r h' e=>⟨e.1,e.2.1,e.2⟩)
  refine (VCalls.frame sel hnd (QcJ hpl) (QcK hpl) c1 ha1 ha).mono ?_
  rintro r h2 ⟨r0,h',⟨rfl,hn,rfl⟩,_,rfl,rfl⟩
  rw [Qfm fun k hk=>(Qde hpl k hk).1,Qe9 _ _ hn]
  exact h
end Go.V
namespace Go.V
open Go
theorem QmN {O:Org} {β:Map} {S:St} {a:Act} {w:World} (h:Sim O β S a w) {k j:Nat} {B:Blk} {d d':DV} (hk:S.hp[k]? = some B) (hd:B.cells[j]? = some d) (h1:d'.one = true) (hr:∀ v,RelD w β S.hp d v->RelD w β S.hp d' v) :
    Sim O β ⟨S.nt,S.base,S.tm,S.hp.set k ⟨B.ty,B.live,B.cells.set j d'⟩⟩ a w:=by
  have hlt:k < S.hp.length:=(List.getElem?_eq_some_iff.1 hk).1
  have at_:∀ {i:Nat} {D:Blk},(S.hp.set k ⟨B.ty,B.live,B.cells.set j d'⟩)[i]? = some D->∃ D0,S.hp[i]? = some D0/\D.ty = D0.ty/\D.live = D0.live/\D.cells.length = D0.cells.length/\(D = D0\/(i = k/\D0 = B/\D.cells = B.cells.set j d')):=by
    intro i D hi
    rw [List.getElem?_set] at hi
    split at hi
    · rename_i e
      subst e
      simp [hlt] at hi
      subst hi
      exact ⟨B,hk,rfl,rfl,by simp,.inr ⟨rfl,rfl,rfl⟩⟩
    · exact ⟨D,hi,rfl,rfl,rfl,.inl rfl⟩
  have lv:∀ b,live β (S.hp.set k ⟨B.ty,B.live,B.cells.set j d'⟩) b->live β S.hp b:=by
    rintro b ⟨i,D,g1,g2,g3⟩
    obtain ⟨D0,e1,_,e3,_⟩:=at_ g1
    exact ⟨i,D0,e1,e3 ▸ g2,g3⟩
  have e:Evo w β S.hp w β (S.hp.set k ⟨B.ty,B.live,B.cells.set j d'⟩):=
    ⟨rfl,rfl,rfl,Nat.le_refl _,by simp,fun _ _=>rfl,fun _ _ _=>rfl,fun _ C _ m h=>⟨C,m,h,rfl⟩,fun b _ hb=>lv b hb,rfl⟩
  have hh:=h.heap
  refine ⟨h.defers,h.size,fun t=>(h.tm t).mono e,?_,h.evo.trans e,h.base⟩
  refine ⟨fun i D b g1 g2 g3=>?_,fun i D g1 g2 g3=>?_,fun i i2 D D2 b g1 g2 g3 g4 g5 g6=>?_,fun i D b g1 g2 g3=>?_,hh.bound⟩
  · obtain ⟨D0,e1,e2,e3,e4,e5⟩:=at_ g1
    obtain ⟨C,c1,c2,c3⟩:=hh.blk i D0 b e1 (e3 ▸ g2) g3
    refine ⟨C,e2 ▸ c1,by rw [e4]; exact c2,fun n x hx=>?_⟩
    rcases e5 with rfl | ⟨rfl,rfl,e6⟩
    · exact ⟨(c3 n x hx).1,(c3 n x hx).2.mono e⟩
    · rw [e6,List.getElem?_set] at hx
      split at hx
      · rename_i en
        subst en
        have hjl:j < D0.cells.length:=(List.getElem?_eq_some_iff.1 hd).1
        simp [hjl] at hx
        subst hx
        exact ⟨h1,(hr _ (c3 j d hd).2).mono e⟩
      · exact ⟨(c3 n x hx).1,(c3 n x hx).2.mono e⟩
  · obtain ⟨D0,e1,e2,e3,e4,e5⟩:=at_ g1
    have:=hh.none i D0 e1 (e3 ▸ g2) g3
    rw [this] at e4
    exact List.length_eq_zero_iff.1 e4
  · obtain ⟨D0,e1,e2,e3,_⟩:=at_ g1
    obtain ⟨D1,f1,f2,f3,_⟩:=at_ g2
    exact hh.inj i i2 D0 D1 b e1 f1 (e3 ▸ g3) (f3 ▸ g4) g5 g6
  · obtain ⟨D0,e1,e2,e3,_⟩:=at_ g1
    exact hh.avoid i D0 b e1 (e3 ▸ g2) g3
theorem VWp.nilOwnC {P:Program} {c:Code} {Q:Exit->St->Prop} {S:St} (k j:Nat) (T:TypeId) (sz:Nat) {B:Blk} (hk:S.hp[k]? = some B) (hd:B.cells[j]? = some (.pv (.slc [])))
    (h:VWp P c Q ⟨S.nt,S.base,S.tm,(S.hp ++ [(⟨T,true,[]⟩:Blk)]).set k ⟨B.ty,B.live,B.cells.set j (.own S.hp.length sz 0 0)⟩⟩):VWp P c Q S:=fun O β a w hs=>by
  have e:Evo w β S.hp w (ext β S.hp.length none) (S.hp ++ [(⟨T,true,[]⟩:Blk)]):=by
    refine ⟨rfl,rfl,rfl,Nat.le_refl _,by simp,fun j hj=>QaN hj,fun _ _ _=>rfl,fun _ C _ m h=>⟨C,m,h,rfl⟩,fun b _ hb=>?_,rfl⟩
    obtain ⟨j,D,g1,g2,g3⟩:=hb
    rcases Nat.lt_trichotomy j S.hp.length with hlt | heq | hgt
    · rw [List.getElem?_append_left hlt] at g1; rw [QaN hlt] at g3; exact ⟨j,D,g1,g2,g3⟩
    · subst heq; simp [ext] at g3
    · rw [List.getElem?_append_right (by omega),List.getElem?_eq_none (by simp; omega)] at g1; simp at g1
  have h2:Sim O (ext β S.hp.length none) ⟨S.nt,S.base,S.tm,S.hp ++ [⟨T,true,[]⟩]⟩ a w:=
    ⟨hs.defers,hs.size,fun u=>(hs.tm u).mono e,QcF hs.heap rfl e (by simp) (fun _=>rfl) (fun _ _=>rfl),hs.evo.trans e,hs.base⟩
  have hlt:k < S.hp.length:=(List.getElem?_eq_some_iff.1 hk).1
  refine h O _ a w (QmN h2 (k:=k) (j:=j) (B:=B) (d:=.pv (.slc [])) (d':=.own S.hp.length sz 0 0) (by show (S.hp ++ _)[k]? = _; rw [List.getElem?_append_left hlt]; exact hk) hd rfl ?_)
  intro v hv
  cases hv with
  | pv _ _ hp0=>cases hp0 with
    | slc _ ad sz2 val g1 g2 g3 g4 g5=>exact .own0 _ _ ad (by simp) (by simp [ext]) trivial
theorem VLoop.nilOwnC {P:Program} {c:Code} {Q:Exit->St->Prop} {S:St} (k j:Nat) (T:TypeId) (sz:Nat) {B:Blk} (hk:S.hp[k]? = some B) (hd:B.cells[j]? = some (.pv (.slc [])))
    (h:VLoop P c Q ⟨S.nt,S.base,S.tm,(S.hp ++ [(⟨T,true,[]⟩:Blk)]).set k ⟨B.ty,B.live,B.cells.set j (.own S.hp.length sz 0 0)⟩⟩):VLoop P c Q S:=VWp.nilOwnC k j T sz hk hd h
end Go.V
namespace Go.V
open Go
def Blk.wk (B:Blk):Blk:=⟨B.ty,B.live,DV.wk.go B.cells⟩
def Qlz (tm:List (Nat × DV)):List (Nat × DV):=tm.map fun p=>(p.1,p.2.wk)
def Qfg (hp:Qa):Qa:=hp.map Blk.wk
theorem DV.wk_one (d:DV) (h:d.one = true):d.wk.one = true:=by
  cases d<;>first | rfl | (simp [DV.one] at h)
theorem QrV:∀ (tm:List (Nat × DV)) (t:Nat),look (Qlz tm) t = (look tm t).wk
  | [],_=>rfl
  | (u,d) :: r,t=>by
    simp only [Qlz,List.map_cons,look]
    split
    · rfl
    · exact QrV r t
theorem QjY {O:Org} {β:Map} {S:St} {a:Act} {w:World} (h:Sim O β S a w):Sim O β ⟨S.nt,S.base,Qlz S.tm,Qfg S.hp⟩ a w:=by
  have at_:∀ {i:Nat} {D:Blk},(Qfg S.hp)[i]? = some D->∃ D0,S.hp[i]? = some D0/\D = D0.wk:=by
    intro i D hi
    rw [Qfg,List.getElem?_map] at hi
    obtain ⟨x,h1,h2⟩:=Qy hi
    exact ⟨x,h1,h2.symm⟩
  have lv:∀ b,live β (Qfg S.hp) b->live β S.hp b:=by
    rintro b ⟨i,D,g1,g2,g3⟩
    obtain ⟨D0,e1,rfl⟩:=at_ g1
    exact ⟨i,D0,e1,g2,g3⟩
  have e:Evo w β S.hp w β (Qfg S.hp):=
    ⟨rfl,rfl,rfl,Nat.le_refl _,by simp [Qfg],fun _ _=>rfl,fun _ _ _=>rfl,fun _ C _ m h=>⟨C,m,h,rfl⟩,fun b _ hb=>lv b hb,rfl⟩
  have hh:=h.heap
  refine ⟨h.defers,h.size,fun t=>by show RelD w β (Qfg S.hp) (look (Qlz S.tm) t) _; rw [QrV]; exact ((h.tm t).mono e).wk,?_,h.evo.trans e,h.base⟩
  refine ⟨fun i D b g1 g2 g3=>?_,fun i D g1 g2 g3=>?_,fun i i2 D D2 b g1 g2 g3 g4 g5 g6=>?_,fun i D b g1 g2 g3=>?_,hh.bound⟩
  · obtain ⟨D0,e1,rfl⟩:=at_ g1
    obtain ⟨C,c1,c2,c3⟩:=hh.blk i D0 b e1 g2 g3
    refine ⟨C,c1,by show (DV.wk.go D0.cells).length<=_; rw [QZ,List.length_map]; exact c2,fun n x hx=>?_⟩
    have hx2:(DV.wk.go D0.cells)[n]? = some x:=hx
    rw [QZ,List.getElem?_map] at hx2
    obtain ⟨y,h1,h2⟩:=Qy hx2
    subst h2
    exact ⟨DV.wk_one _ (c3 n y h1).1,((c3 n y h1).2.mono e).wk⟩
  · obtain ⟨D0,e1,rfl⟩:=at_ g1
    have:=hh.none i D0 e1 g2 g3
    show DV.wk.go D0.cells = []
    rw [this]; rfl
  · obtain ⟨D0,e1,rfl⟩:=at_ g1
    obtain ⟨D1,f1,rfl⟩:=at_ g2
    exact hh.inj i i2 D0 D1 b e1 f1 g3 g4 g5 g6
  · obtain ⟨D0,e1,rfl⟩:=at_ g1
    exact hh.avoid i D0 b e1 g2 g3
theorem VWp.wkS {P:Program} {c:Code} {Q:Exit->St->Prop} {S:St} (h:VWp P c Q ⟨S.nt,S.base,Qlz S.tm,Qfg S.hp⟩):VWp P c Q S:=fun O β a w hs=>h O β a w (QjY hs)
theorem VLoop.wkS {P:Program} {c:Code} {Q:Exit->St->Prop} {S:St} (h:VLoop P c Q ⟨S.nt,S.base,Qlz S.tm,Qfg S.hp⟩):VLoop P c Q S:=VWp.wkS h
end Go.V
namespace Go.V
open Go
structure FzN (n:Nat) (S S':St):Prop where
  nt:S'.nt = S.nt
  base:S'.base = S.base
  lo:S.base<=n
  hi:n<=S.hp.length
  hp:Qbc n S.hp = some S'.hp
  tm:QCP n S.hp S.tm S'.tm
theorem Sim.fzN {O:Org} {β:Map} {S S':St} {a:Act} {w:World} {n:Nat} (h:Sim O β S a w) (g:FzN n S S'):Sim O β S' a w:=by
  have one:∀ {d:DV} {v:Value} {d':DV},RelD w β S.hp d v->frz n S.hp d = some d'->RelD w β S'.hp d' v/\HeapRel w β S'.hp/\S'.hp.length = n/\∀ b,live β S'.hp b->live β S.hp b:=by
    intro d v d' hd hf
    obtain ⟨e,hp',⟨r1,r2⟩,k2,k3,k4,k5⟩:=Qc1 h.heap g.hi hd (R:=fun e hp'=>e = d'/\hp' = S'.hp) (by unfold Qtw; rw [hf,g.hp]; exact ⟨rfl,rfl⟩)
    subst r1 r2
    exact ⟨k2,k3,k4,k5⟩
  obtain ⟨_,k3,k4,k5⟩:=one (d:=.any) (v:=undef) (d':=.any) (.any _) rfl
  refine ⟨h.defers,by rw [g.nt]; exact h.size,fun t=>?_,k3,?_,h.base.trans g.base.symm⟩
  · rcases Qgd g.tm t with e | e
    · rw [e]; exact .any _
    · exact (one (h.tm t) e).1
  · have ev:=h.evo
    exact ⟨ev.os,ev.tape,ev.output,ev.size,by rw [k4]; have:=h.base; have:=g.lo; omega,ev.beta,ev.same,ev.shape,fun b hb hl=>ev.im b hb (k5 b hl),ev.X⟩
def Qwt (S S':St):Prop:=Qpu S S'\/∃ n S1,Qpu S S1/\FzN n S1 S'
theorem Sim.weakN {O:Org} {β:Map} {S S':St} {a:Act} {w:World} (h:Sim O β S a w) (g:Qwt S S'):∃ β',Sim O β' S' a w:=by
  rcases g with g | ⟨n,S1,g1,g2⟩
  · exact h.weak g
  · obtain ⟨β',h'⟩:=h.weak g1
    exact ⟨β',h'.fzN g2⟩
theorem VWp.weakN {P:Program} {c:Code} {Q:Exit->St->Prop} {S:St} (S':St) (g:Qwt S S') (h:VWp P c Q S'):VWp P c Q S:=fun O β a w hs=>
  let ⟨β',hs'⟩:=hs.weakN g
  h O β' a w hs'
theorem QAK {P:Program} {c:Code} {Q:Exit->St->Prop} {S:St} {ι:Type} (I:ι->St) (μ:ι->Nat) (i₀:ι) (h₀:Qwt S (I i₀))
    (round:∀ i,Qx P c (Qab Q fun S'=>∃ j,μ j < μ i/\Qwt S' (I j)) (I i)):VLoop P c Q S:=by
  intro O β a w hs b k cs
  have key:∀ n β i a w,μ i = n->Sim O β (I i) a w ->
      ∃ e a' w',Qkz O Q e a' w'/\Arrives P (lone (b.at a (.code c :: .inLoop c :: k)) cs w) b k cs e a' w':=by
    intro n
    induction n using Nat.strongRecOn with
    | _ n ih =>
      intro β i a w hn hs
      obtain ⟨e,a₁,w₁,hq,harr⟩:=Qu c _ _ (round i) O β a w hs b (.inLoop c :: k) cs
      obtain ⟨β₁,S₁,hs₁,hq⟩:=hq
      cases e with
      | normal =>
        obtain ⟨j,hlt,hle⟩:=hq
        obtain ⟨β₂,hs₂⟩:=hs₁.weakN hle
        obtain ⟨e₂,a₂,w₂,hq₂,harr₂⟩:=ih (μ j) (hn ▸ hlt) β₂ j a₁ w₁ rfl hs₂
        exact ⟨e₂,a₂,w₂,hq₂,.of_steps (Steps.trans harr (.one step_inLoop)) harr₂⟩
      | exit id=>exact ⟨_,a₁,w₁,⟨β₁,S₁,hs₁,hq⟩,.pass (x:=.inLoop c) rfl (fun _ _=>.inl (by simp)) harr⟩
      | goto l=>exact ⟨_,a₁,w₁,⟨β₁,S₁,hs₁,hq⟩,.pass (x:=.inLoop c) rfl (fun _ _=>.inl (by simp)) harr⟩
      | ret=>exact ⟨_,a₁,w₁,⟨β₁,S₁,hs₁,hq⟩,.pass (x:=.inLoop c) rfl (fun _ _=>.inl (by simp)) harr⟩
      | panic ch=>exact ⟨_,a₁,w₁,⟨β₁,S₁,hs₁,hq⟩,.pass (x:=.inLoop c) rfl (fun _ _=>.inl (by simp)) harr⟩
      | outgrown=>exact ⟨_,a₁,w₁,⟨β₁,S₁,hs₁,hq⟩,.pass (x:=.inLoop c) rfl (fun _ _=>.inl (by simp)) harr⟩
  obtain ⟨β₀,hs₀⟩:=hs.weakN h₀
  obtain ⟨e,a',w',hq,harr⟩:=key _ β₀ i₀ a w rfl hs₀
  exact ⟨e,a',w',hq,.of_steps (.one step_loop) harr⟩
end Go.V
namespace Go.V
theorem Qkv {n:Nat} (h:n<=140737488355328):(n<=140737488355328) = True:=eq_true h
end Go.V
namespace Go.V
theorem QfZ {α:Type} (e:Enc α) (l:List α) (T:TypeId) (a b:Nat) (h:a<=b/\b<=l.length):QnH (some (none,T,e.sz)) (fz e l) a b = some (.pv (.sl (fz e ((l.take b).drop a)))):=by
  have h1:fz e l = []\/(fz e l)[0]?.map List.length = some e.sz:=by
    cases l with
    | nil=>exact .inl rfl
    | cons x r=>exact .inr (Qsq e (x :: r) (by simp))
  simp only [QnH]
  rw [if_pos ⟨h.1,by rw [QkM]; exact h.2,h1⟩,Qsp,Qzw]
end Go.V
namespace Go.V
theorem Qfh {α:Type} (e:Enc α) (l:List α):(fz e l = []\/(fz e l)[0]?.map List.length = some e.sz) = True:=by
  refine eq_true ?_
  cases l with
  | nil=>exact .inl rfl
  | cons x r=>exact .inr (Qsq e (x :: r) (by simp))
theorem QbP (n:Nat):((n:Int) + 1).toNat = n + 1:=by omega
theorem Qbm (n:Nat):((n:Int) - 1).toNat = n - 1:=by omega
end Go.V
namespace Go.V
open Go
attribute [go_sem ↓] QrW QxB QxC QtI QxI Qs0 Qmo Qs3 Qwa Qo0 Qs1 Qs2 Qwb Qgx Qkk QiW Qht QlX Qkl QpI QqI QqE Qof QqH QqG QqF Qyd QtV Qv4 Qv1 QsO Qv3 Qv2 Qs4 QnF Qt1 Qqd Qjs QpM QvD Qxm QtG Qxo
attribute [go_sem] QtN QjH QlZ QsD QnN Qhi QiZ Qmj QtM QjG QlY QsC QpU Qiz Qxv Qlv QpS Qix Qkp QoO Qhe QdY QtO QjI Ql0 QpO Qit Qkn Qju Qft Qgz Qi9 QpT Qiy Qkq QoP QtL QjF QsB Qlm Qf8 Qhv Qjv Qfu Qim QeI QpP Qiu Qko Qio QeK Qfz QhC QpR Qiw Qin QeJ Qfy QhB QpQ Qiv Qll Qf7 Qhu QkQ QsE QoL QkR QoM QsF Qot Qln Qf9 Qis QxP QrB Qvb QzU QzF Qwk Qwm Qwl Qv8 Qve QtP QnM Quc Qqs Qqt Qud Qqv Qqr Que Qqu QpB QrK QrJ Qoq QB2 QvW QzK Ql3 Qks Qhw Qi0 QgB Qu7 Qu8 QDx QsH QsI QoH QoG Qp3 QtS Qp2 Qzz QBY Qzy Qzx QvR QzA QvQ QzE QvU Qmu Qfn QkO QyB QyA QtJ QpL Qvt Qy2 QxE QxF QtQ QtR Qqw Qxk Qxl Qwh Qwi Qui Quj QCh Qwr Qqf Qph Qmw QBE QyS QBF QsK Qp6 QvV Qp7 QoR QtT QtK Qxu QvG Qjx Qsi Qp1 Qsh Qp0 Qsd QpZ Qsc QpY Qz2 Qz1 Qzr Qzf Qzk Qzq QBS Qze Qzp Qzj Qzl Qzm Qzn Qzo Qzi Qzh Qzg QcD Qx1 QxZ QAZ QAY QzI QBP QAL Qy5 Qy6 Qy4 Qxz QCk Qth Qz8 Qz9 QCi QCj QrG Qos QvY QsL QyU Qvg Qkm QyT Qv9 QxO QB3 Qp4 QnT QnU QDy Quh Qmg QoK QlH QlG QjW QjV Qhp QpE QpD Qz3 QxT QxS QyO QyN QrA pvs List.flatten_nil List.map_nil Qb4 QjL Qfr QaT QjX Qlk QxR QdD QpX V.kill QkE V.rows List.toList_toArray List.getElem?_cons_zero List.getElem?_cons_succ List.getElem?_nil List.length_cons List.length_nil List.map_cons List.cons_append List.nil_append List.append_nil List.take_succ_cons List.take_zero List.take_nil List.drop_succ_cons List.drop_zero List.drop_nil List.set_cons_zero List.set_cons_succ List.any_nil List.any_cons Option.map_some Option.map_none Option.bind_some Option.getD_some Option.getD_none Option.isSome_some Option.isSome_none Bool.false_eq_true Int.toNat_natCast Nat.zero_add Nat.add_zero Nat.zero_mul Nat.mul_one Nat.one_mul decide_true decide_false true_and and_true and_self false_and and_false true_or or_true or_false false_or or_self not_true_eq_false not_false_eq_true ne_eq Bool.not_true Bool.not_false Bool.or_true Bool.true_or Bool.or_false Bool.false_or Bool.and_true Bool.true_and Bool.and_false Bool.false_and Bool.or_self Bool.and_self Bool.not_not Qz4 Qz5 cond_true cond_false Bool.cond_self beq_self_eq_true Nat.lt_irrefl Nat.le_refl QpC Qxn Qvc QrD Qor QsT QoV QsV QsW QsX QkZ Qtq Qpi Qmx Qob QlI Op.operands Qva QvS Qw3 Qvq QkM Qdq Qdo Qs9 List.length_replicate Qdp Qzv QD2 DV.wk DV.wk.go PV.wk QD8 QvT Qsu Qst QzD QzC Qlg QnE QDu QDv Qsa Qsb Qr8 Qr9 Ret DV.nums DV.nums.go
end Go.V
namespace Go.V
open Go
def QpF (e:Option (Option Nat × TypeId × Nat)) (xs:List (List PV)) (a b c:Nat):Option DV:=
  match e with
  | some (none,_,sz)=>if a<=b/\b = c/\b<=xs.length/\(xs = []\/(xs[0]?.map List.length) = some sz) then some (.pv (.slc ((xs.take b).drop a))) else none
  | _=>none
theorem Qn2 {P:Program} {T:TypeId} {k2 k3:IntKind} {j m:Int} {xs:List (List PV)} (h1:0<=j) (h2:0<=m):Qbf P T (.pv (.sl xs)) none (some (.pv (.lit (.int k2 j)))) (some (.pv (.lit (.int k3 m)))) = QpF (QL P T) xs 0 j.toNat m.toNat:=by
  unfold Qbf QpF
  rcases QL P T with _ | ⟨_ | n,t,sz⟩<;>simp [QjX,Ql9,QoD,h1,h2]
theorem QtH {α:Type} (e:Enc α) (l:List α) (T:TypeId):QpF (some (none,T,e.sz)) (fz e l) 0 l.length l.length = some (.pv (.slc (fz e l))):=by
  unfold QpF
  have h:=Qfh e l
  simp only [QkM,Nat.zero_le,Nat.le_refl,h,and_self,if_true,List.drop_zero]
  rw [List.take_of_length_le (by rw [QkM]; exact Nat.le_refl _)]
attribute [go_sem] Qn2
variable {α:Type} (e:Enc α)
theorem QjZ (l:List α) (i:Nat) (x:α) (h:i < l.length):splice (cells e l) (i * e.sz) ((e.enc x).map DV.pv) = cells e (l.set i x):=by
  have:=QjU e l [x] i
  rw [List.set_eq_take_append_cons_drop,if_pos h]
  rw [show l.take i ++ x :: l.drop (i + 1) = l.take i ++ [x] ++ l.drop (i + [x].length) by simp,<- this]
  congr 1
  simp [cells]
end Go.V
namespace Go.V
open Go
theorem Qzu {w:World} {β:Map} {hp:Qa} (hh:HeapRel w β hp):HeapRel w β (Qfg hp)/\Evo w β hp w β (Qfg hp):=by
  have at_:∀ {i:Nat} {D:Blk},(Qfg hp)[i]? = some D->∃ D0,hp[i]? = some D0/\D = D0.wk:=by
    intro i D hi
    rw [Qfg,List.getElem?_map] at hi
    obtain ⟨x,h1,h2⟩:=Qy hi
    exact ⟨x,h1,h2.symm⟩
  have lv:∀ b,live β (Qfg hp) b->live β hp b:=by
    rintro b ⟨i,D,g1,g2,g3⟩
    obtain ⟨D0,e1,rfl⟩:=at_ g1
    exact ⟨i,D0,e1,g2,g3⟩
  have e:Evo w β hp w β (Qfg hp):=
    ⟨rfl,rfl,rfl,Nat.le_refl _,by simp [Qfg],fun _ _=>rfl,fun _ _ _=>rfl,fun _ C _ m h=>⟨C,m,h,rfl⟩,fun b _ hb=>lv b hb,rfl⟩
  refine ⟨⟨fun i D b g1 g2 g3=>?_,fun i D g1 g2 g3=>?_,fun i i2 D D2 b g1 g2 g3 g4 g5 g6=>?_,fun i D b g1 g2 g3=>?_,hh.bound⟩,e⟩
  · obtain ⟨D0,e1,rfl⟩:=at_ g1
    obtain ⟨C,c1,c2,c3⟩:=hh.blk i D0 b e1 g2 g3
    refine ⟨C,c1,by show (DV.wk.go D0.cells).length<=_; rw [QZ,List.length_map]; exact c2,fun n x hx=>?_⟩
    have hx2:(DV.wk.go D0.cells)[n]? = some x:=hx
    rw [QZ,List.getElem?_map] at hx2
    obtain ⟨y,h1,h2⟩:=Qy hx2
    subst h2
    exact ⟨DV.wk_one _ (c3 n y h1).1,((c3 n y h1).2.mono e).wk⟩
  · obtain ⟨D0,e1,rfl⟩:=at_ g1
    have:=hh.none i D0 e1 g2 g3
    show DV.wk.go D0.cells = []
    rw [this]; rfl
  · obtain ⟨D0,e1,rfl⟩:=at_ g1
    obtain ⟨D1,f1,rfl⟩:=at_ g2
    exact hh.inj i i2 D0 D1 b e1 f1 g3 g4 g5 g6
  · obtain ⟨D0,e1,rfl⟩:=at_ g1
    exact hh.avoid i D0 b e1 g2 g3
theorem VCalls.wkH {P:Program} {g:FuncId} {args:List DV} {hp:Qa} {R:DV->Qa->Prop} (c:VCalls P g (DV.wk.go args) (Qfg hp) R):VCalls P g args hp R:=by
  refine VCalls.wkA ⟨fun w β vs hh ha=>?_⟩
  obtain ⟨h1,e1⟩:=Qzu hh
  refine (c.run w β vs h1 ⟨ha.1,fun i d hd=>(ha.2 i d hd).mono e1⟩).mono ?_
  rintro _ w' ⟨v,r,h',β',a,b,c,d,k⟩
  exact ⟨v,r,h',β',a,e1.trans b,c,d,k⟩
theorem QfT:Qfg [] = []:=rfl
theorem Qep {B:Blk} {r:Qa}:Qfg (B :: r) = ⟨B.ty,B.live,DV.wk.go B.cells⟩ :: Qfg r:=rfl
theorem QdW:DV.wk.go [] = []:=rfl
theorem QcZ {d:DV} {r:List DV}:DV.wk.go (d :: r) = d.wk :: DV.wk.go r:=rfl
end Go.V
namespace Go.V
open Go
end Go.V
namespace Go.V
open Go
def SimLe (S S':St):Prop:=∀ (O:Org) (β:Map) (a:Act) (w:World),Sim O β S a w->∃ β',Sim O β' S' a w
theorem SimLe.refl (S:St):SimLe S S:=fun _ β _ _ h=>⟨β,h⟩
theorem SimLe.trans {S S1 S2:St} (h:SimLe S S1) (g:SimLe S1 S2):SimLe S S2:=fun O β a w hs=>
  let ⟨β1,h1⟩:=h O β a w hs
  g O β1 a w h1
theorem SimLe.weak {S S':St} (h:Qpu S S'):SimLe S S':=fun _ _ _ _ hs=>hs.weak h
theorem SimLe.fzN {S S':St} {n:Nat} (h:FzN n S S'):SimLe S S':=fun _ β _ _ hs=>⟨β,hs.fzN h⟩
theorem SimLe.wk {S S':St} (h:SimLe ⟨S.nt,S.base,Qlz S.tm,Qfg S.hp⟩ S'):SimLe S S':=fun O β a w hs=>h O β a w (QjY hs)
theorem VWp.simLe {P:Program} {c:Code} {Q:Exit->St->Prop} {S:St} (S':St) (g:SimLe S S') (h:VWp P c Q S'):VWp P c Q S:=fun O β a w hs=>
  let ⟨β',hs'⟩:=g O β a w hs
  h O β' a w hs'
theorem VLoop.simLe {P:Program} {c:Code} {Q:Exit->St->Prop} {S:St} (S':St) (g:SimLe S S') (h:VLoop P c Q S'):VLoop P c Q S:=VWp.simLe S' g h
theorem VDraw.simLe {P:Program} {id:Nat} {ops:Array Oper} {Q:Exit->St->Prop} {S:St} (S':St) (g:SimLe S S') (h:VDraw P id ops Q S'):VDraw P id ops Q S:=VWp.simLe S' g h
def QoF:Nat->Code->Code
  | n + 1,.seq a b=>.seq a (QoF n b)
  | _,_=>.skip
def Qhr:Nat->Code->Code
  | n + 1,.seq _ b=>Qhr n b
  | _,c=>c
theorem QC6 {P:Program}:∀ (n:Nat) {c:Code} {Q:Exit->St->Prop} {S:St},Qx P (QoF n c) (Qab Q fun S'=>∃ S'',SimLe S' S''/\VWp P (Qhr n c) Q S'') S->VWp P c Q S
  | 0,c,Q,S,h=>by
    have h:∃ S'',SimLe S S''/\VWp P (Qhr 0 c) Q S'':=by cases c<;>exact h
    obtain ⟨S'',h1,h2⟩:=h
    cases c<;>exact VWp.simLe S'' h1 h2
  | n + 1,c,Q,S,h=>by
    cases c with
    | seq a b =>
      intro O β ac w hs
      simp only [QoF,Qx] at h
      refine wp_seq (wp_mono (Qu a _ S h O β ac w hs) fun e a' w' hq=>?_)
      obtain ⟨β',S',hs',hq⟩:=hq
      cases e with
      | normal=>exact QC6 n (c:=b) hq O β' a' w' hs'
      | _=>exact ⟨β',S',hs',hq⟩
    | _ =>
      obtain ⟨S'',h1,h2⟩:=(h:∃ S'',SimLe S S''/\_)
      exact VWp.simLe S'' h1 h2
theorem QmH:Qlz [] = []:=rfl
theorem QjO {t:Nat} {d:DV} {r:List (Nat × DV)}:Qlz ((t,d) :: r) = (t,d.wk) :: Qlz r:=rfl
theorem Qww (a b:List DV):DV.wk.go (a ++ b) = DV.wk.go a ++ DV.wk.go b:=by rw [QZ,QZ,QZ,List.map_append]
theorem QcN {n:Nat} {a b:Code}:QoF (n + 1) (.seq a b) = .seq a (QoF n b):=rfl
theorem Qb0 {c:Code}:QoF 0 c = .skip:=by cases c<;>rfl
theorem Qaz {n:Nat} {a b:Code}:Qhr (n + 1) (.seq a b) = Qhr n b:=rfl
theorem Qak {c:Code}:Qhr 0 c = c:=by cases c<;>rfl
theorem QxK {P:Program} {c:Code} {Q:Exit->St->Prop} {S:St} (h:Qx P c Q ⟨S.nt,S.base,Qlz S.tm,Qfg S.hp⟩):∃ S'',SimLe S S''/\VWp P c Q S'':=
  ⟨_,.wk (.refl _),Qu _ _ _ h⟩
def Qe6 (P:Program) (rs:List ResultVar) (n:Nat) (R:DV->Qa->Prop) (e:Exit) (S:St):Prop:=Qcv P rs n R e ⟨S.nt,S.base,Qlz S.tm,Qfg S.hp⟩
theorem QnK {P:Program} {rs:List ResultVar} {n:Nat} {R:DV->Qa->Prop} {S:St}:Qe6 P rs n R .ret S = Qcv P rs n R .ret ⟨S.nt,S.base,Qlz S.tm,Qfg S.hp⟩:=(rfl)
theorem Qil {P:Program} {rs:List ResultVar} {n:Nat} {R:DV->Qa->Prop} {S:St}:Qe6 P rs n R .normal S = Qcv P rs n R .normal ⟨S.nt,S.base,Qlz S.tm,Qfg S.hp⟩:=(rfl)
theorem VWp.postK {P:Program} {c:Code} {rs:List ResultVar} {n:Nat} {R:DV->Qa->Prop} {S:St} (h:VWp P c (Qe6 P rs n R) S):VWp P c (Qcv P rs n R) S:=fun O β a w hs=>
  wp_mono (h O β a w hs) fun _ _ _ ⟨β',_,hs',hq⟩=>⟨β',_,QjY hs',hq⟩
theorem QjE {P:Program} {g:FuncId} {args:List DV} {h:Qa} {R:DV->Qa->Prop} {fn:Func} {c:Code} (hf:P.funcs[g]? = some fn) (hb:fn.body = some c) (hname:(fn.name == "runtime.NumGoroutine") = false) (hn:args.length<=fn.ntmps)
    (hc:Qx P c (Qe6 P fn.results.toList h.length R) ⟨fn.ntmps,h.length,QfV 0 args,h⟩):VCalls P g args h R:=
  QcA hf hb hname hn (Qu c _ _ hc).postK
attribute [go_sem ↓] QnK Qil
attribute [go_sem] QmH QjO QfT Qep QdW QcZ
end Go.V
namespace Go.V
def Stable (G:World->World->Map->Qa->Prop):Prop:=∀ (w0 w:World) (β:Map) (hp:Qa) (w':World) (β':Map) (hp':Qa),HeapRel w β hp->Evo w β hp w' β' hp'->G w0 w β hp->G w0 w' β' hp'
theorem Stable.and {G G':World->World->Map->Qa->Prop} (h:Stable G) (h':Stable G'):Stable (fun w0 w β hp=>G w0 w β hp/\G' w0 w β hp):=fun w0 w β hp w' β' hp' hh e q=>⟨h w0 w β hp w' β' hp' hh e q.1,h' w0 w β hp w' β' hp' hh e q.2⟩
structure SimG (G:World->World->Map->Qa->Prop) (O:Org) (β:Map) (S:St) (a:Act) (w:World):Prop where
  defers:a.defers = O.ds
  size:a.tmps.size = S.nt
  tm:∀ t,RelD w β S.hp (look S.tm t) (a.tmps.getD t undef)
  heap:HeapRel w β S.hp
  evo:Evo O.w O.β O.hp w β S.hp
  g:G O.w w β S.hp
theorem SimG.reb {G:World->World->Map->Qa->Prop} {O:Org} {β:Map} {S:St} {a:Act} {w:World} (h:SimG G O β S a w):Sim ⟨w,β,S.hp,a.defers⟩ β S.reb a w:=⟨rfl,h.size,h.tm,h.heap,Evo.refl _ _ _,rfl⟩
theorem SimG.on {G:World->World->Map->Qa->Prop} (hG:Stable G) {O:Org} {β β':Map} {S S':St} {a a':Act} {w w':World} (h:SimG G O β S a w) (h':Sim ⟨w,β,S.hp,a.defers⟩ β' S' a' w'):SimG G O β' S' a' w':=
  ⟨h'.defers.trans h.defers,h'.size,h'.tm,h'.heap,h.evo.trans h'.evo,hG _ _ _ _ _ _ _ h.heap h'.evo h.g⟩
variable {P:Program} {γ:Type} {Γ:γ->World->World->Map->Qa->Prop}
def QrX (Γ:γ->World->World->Map->Qa->Prop) (O:Org) (Q:Exit->St->γ->Prop):Exit->Act->World->Prop:=fun e a w=>∃ β S g,SimG (Γ g) O β S a w/\Q e S g
def VWpG (P:Program) (Γ:γ->World->World->Map->Qa->Prop) (c:Code) (Q:Exit->St->γ->Prop) (S:St) (g:γ):Prop:=∀ (O:Org) (β:Map) (a:Act) (w:World),SimG (Γ g) O β S a w->c.wp P (QrX Γ O Q) a w
def QbU (Q:Exit->St->γ->Prop) (K:St->γ->Prop):Exit->St->γ->Prop
  | .normal,S,g=>K S g
  | e,S,g=>Q e S g
def QfR (id:Nat) (Q:Exit->St->γ->Prop):Exit->St->γ->Prop
  | .exit id',S,g=>if id' = id then Q .normal S g else Q (.exit id') S g
  | e,S,g=>Q e S g
theorem VWpG.plain (hΓ:∀ g,Stable (Γ g)) {c:Code} {Q:Exit->St->γ->Prop} {S:St} {g:γ} (h:Qx P c (fun e S'=>Q e S' g) S.reb):VWpG P Γ c Q S g:=fun _ _ _ _ hs=>
  wp_mono (Qu c _ _ h _ _ _ _ hs.reb) fun _ _ _ ⟨β',S',h',q⟩=>⟨β',S',g,hs.on (hΓ g) h',q⟩
theorem VWpG.seq {x y:Code} {Q:Exit->St->γ->Prop} {S:St} {g:γ} (h:VWpG P Γ x (QbU Q (VWpG P Γ y Q)) S g):VWpG P Γ (.seq x y) Q S g:=fun O β a w hs=>by
  refine wp_seq (wp_mono (h O β a w hs) fun e a' w' hq=>?_)
  obtain ⟨β',S',g',h',q⟩:=hq
  cases e with
  | normal=>exact q O β' a' w' h'
  | _=>exact ⟨β',S',g',h',q⟩
theorem VWpG.first (hΓ:∀ g,Stable (Γ g)) {x y:Code} {Q:Exit->St->γ->Prop} {S:St} {g:γ} (h:Qx P x (fun e S'=>QbU Q (VWpG P Γ y Q) e S' g) S.reb):VWpG P Γ (.seq x y) Q S g:=(VWpG.plain hΓ h).seq
theorem VWpG.block {id:Nat} {c:Code} {Q:Exit->St->γ->Prop} {S:St} {g:γ} (h:VWpG P Γ c (QfR id Q) S g):VWpG P Γ (.block id c) Q S g:=fun O β a w hs=>by
  refine wp_block (wp_mono (h O β a w hs) fun e a' w' hq=>?_)
  obtain ⟨β',S',g',hs',hq⟩:=hq
  cases e with
  | exit id' =>
    simp only [QfR] at hq
    simp only [Exit.inBlock]
    split
    · rename_i he; rw [if_pos he] at hq; exact ⟨β',S',g',hs',hq⟩
    · rename_i he; rw [if_neg he] at hq; exact ⟨β',S',g',hs',hq⟩
  | _=>exact ⟨β',S',g',hs',hq⟩
theorem VWpG.cond {c:Operand} {x y:Code} {Q:Exit->St->γ->Prop} {S:St} {g:γ} {t:Bool} (ht:S.ev c = .pv (.lit (.bool t))) (h1:t = true->VWpG P Γ x Q S g) (h2:t = false->VWpG P Γ y Q S g):VWpG P Γ (.cond c x y) Q S g:=fun O β a w hs=>by
  have hc:=hs.reb.ev c
  have e:S.reb.ev c = S.ev c:=by cases c<;>rfl
  rw [e,ht] at hc
  exact wp_cond_split (Qi hc) (fun q=>h1 q O β a w hs) (fun q=>h2 q O β a w hs)
def WeakG (Γ:γ->World->World->Map->Qa->Prop) (S:St) (g:γ) (S':St) (g':γ):Prop:=∀ (O:Org) (β:Map) (a:Act) (w:World),SimG (Γ g) O β S a w->∃ β',SimG (Γ g') O β' S' a w
theorem VWpG.loop {c:Code} {Q:Exit->St->γ->Prop} {S:St} {g:γ} {ι:Type} (I:ι->St) (J:ι->γ) (μ:ι->Nat) (i₀:ι) (h₀:WeakG Γ S g (I i₀) (J i₀))
    (round:∀ i,VWpG P Γ c (QbU Q fun S' g'=>∃ j,μ j < μ i/\WeakG Γ S' g' (I j) (J j)) (I i) (J i)):VWpG P Γ (.loop c) Q S g:=by
  intro O β a w hs b k cs
  have key:∀ n β i a w,μ i = n->SimG (Γ (J i)) O β (I i) a w ->
      ∃ e a' w',QrX Γ O Q e a' w'/\Arrives P (lone (b.at a (.code c :: .inLoop c :: k)) cs w) b k cs e a' w':=by
    intro n
    induction n using Nat.strongRecOn with
    | _ n ih =>
      intro β i a w hn hs
      obtain ⟨e,a₁,w₁,hq,harr⟩:=round i O β a w hs b (.inLoop c :: k) cs
      obtain ⟨β₁,S₁,g₁,hs₁,hq⟩:=hq
      cases e with
      | normal =>
        obtain ⟨j,hlt,hle⟩:=hq
        obtain ⟨β₂,hs₂⟩:=hle _ _ _ _ hs₁
        obtain ⟨e₂,a₂,w₂,hq₂,harr₂⟩:=ih (μ j) (hn ▸ hlt) β₂ j a₁ w₁ rfl hs₂
        exact ⟨e₂,a₂,w₂,hq₂,.of_steps (Steps.trans harr (.one step_inLoop)) harr₂⟩
      | exit id=>exact ⟨_,a₁,w₁,⟨β₁,S₁,g₁,hs₁,hq⟩,.pass (x:=.inLoop c) rfl (fun _ _=>.inl (by simp)) harr⟩
      | goto l=>exact ⟨_,a₁,w₁,⟨β₁,S₁,g₁,hs₁,hq⟩,.pass (x:=.inLoop c) rfl (fun _ _=>.inl (by simp)) harr⟩
      | ret=>exact ⟨_,a₁,w₁,⟨β₁,S₁,g₁,hs₁,hq⟩,.pass (x:=.inLoop c) rfl (fun _ _=>.inl (by simp)) harr⟩
      | panic ch=>exact ⟨_,a₁,w₁,⟨β₁,S₁,g₁,hs₁,hq⟩,.pass (x:=.inLoop c) rfl (fun _ _=>.inl (by simp)) harr⟩
      | outgrown=>exact ⟨_,a₁,w₁,⟨β₁,S₁,g₁,hs₁,hq⟩,.pass (x:=.inLoop c) rfl (fun _ _=>.inl (by simp)) harr⟩
  obtain ⟨β₀,hs₀⟩:=h₀ _ _ _ _ hs
  obtain ⟨e,a',w',hq,harr⟩:=key _ β₀ i₀ a w rfl hs₀
  exact ⟨e,a',w',hq,.of_steps (.one step_loop) harr⟩
theorem WeakG.of {S S':St} {g:γ} (hw:∀ w0 w β hp β' hp',Γ g w0 w β hp->Γ g w0 w β' hp') (h:Qpu S.reb { S' with base:=S.hp.length }):WeakG Γ S g S' g:=fun O β a w hs=>by
  obtain ⟨β',h'⟩:=hs.reb.weak h
  exact ⟨β',h'.defers.trans hs.defers,h'.size,h'.tm,h'.heap,hs.evo.trans h'.evo,hw _ _ _ _ _ _ hs.g⟩
end Go.V
namespace Go.V
open Go.MapKept
end Go.V
namespace Go.V
variable {P:Program} {γ:Type} {Γ:γ->World->World->Map->Qa->Prop}
def OpG (P:Program) (Γ:γ->World->World->Map->Qa->Prop) (ops:Array Oper) (o:Oper) (K:St->γ->Prop) (S:St) (g:γ):Prop :=
  ∀ (n:Nat) (Q:Exit->Act->World->Prop) (next:Act->World->Prop) (O:Org) (β:Map) (a:Act) (w:World),SimG (Γ g) O β S a w ->
    (∀ β' S' g' a' w',SimG (Γ g') O β' S' a' w'->K S' g'->next a' w') ->
    if Region.wanted o (yielded ops a.tmps) = true then o.wpIn (wd none) n P a w next Q else next (a.put o.dst undef) w
def Qba:List (List Oper × Option Oper)->List Oper
  | []=>[]
  | (A,none) :: r=>A ++ Qba r
  | (A,some o) :: r=>A ++ o :: Qba r
def Qxy (P:Program) (Γ:γ->World->World->Map->Qa->Prop) (ops:Array Oper):List (List Oper × Option Oper)->(St->γ->Prop)->St->γ->Prop
  | [],K,S,g=>K S g
  | (A,none) :: r,K,S,g=>Qag P ops.toList A (fun S1=>Qxy P Γ ops r K S1 g) S.reb
  | (A,some o) :: r,K,S,g=>Qag P ops.toList A (fun S1=>OpG P Γ ops o (Qxy P Γ ops r K) S1 g) S.reb
theorem QeF (hΓ:∀ g,Stable (Γ g)) {ops:Array Oper} {Q:Exit->Act->World->Prop} {n:Nat} {K:St->γ->Prop} {O:Org} (hK:∀ β S g a w,SimG (Γ g) O β S a w->K S g->Q .normal a w) :
    ∀ (ch:List (List Oper × Option Oper)) (pre:List Oper),ops.toList = pre ++ Qba ch->∀ (β:Map) (S:St) (g:γ) (a:Act) (w:World),SimG (Γ g) O β S a w->Qxy P Γ ops ch K S g ->
      wpOpsIn (wd none) n P ops Q (List.range' pre.length (Qba ch).length) a w
  | [],pre,_,β,S,g,a,w,hs,h=>by
    simp only [Qba,List.length_nil,List.range'_zero,wpOpsIn]
    exact hK β S g a w hs h
  | (A,none) :: r,pre,hops,β,S,g,a,w,hs,h=>by
    have e:List.range' pre.length (Qba ((A,none) :: r)).length = List.range' pre.length A.length ++ List.range' (pre ++ A).length (Qba r).length:=by
      simp only [Qba,List.length_append]
      rw [<- List.range'_append_1]
    rw [e]
    refine QaD (P:=P) (rd:=none) (n:=n) (ops:=ops) (Q:=Q) (T:=fun _=>True) (fun _ _ _ _ _=>trivial) ?_ A pre (Qba r) (by rw [hops]; simp [Qba]) β S.reb a w hs.reb trivial h
    intro β1 S1 a1 w1 hs1 _ h1
    exact QeF hΓ hK r (pre ++ A) (by rw [hops]; simp [Qba]) β1 S1 g a1 w1 (hs.on (hΓ g) hs1) h1
  | (A,some o) :: r,pre,hops,β,S,g,a,w,hs,h=>by
    have e:List.range' pre.length (Qba ((A,some o) :: r)).length = List.range' pre.length A.length ++ ((pre ++ A).length :: List.range' (pre ++ A ++ [o]).length (Qba r).length):=by
      simp only [Qba,List.length_append,List.length_cons,List.length_nil]
      rw [show (pre.length + A.length) :: List.range' (pre.length + A.length + (0 + 1)) (Qba r).length = List.range' (pre.length + A.length) ((Qba r).length + 1) by rw [List.range'_succ],<- List.range'_append_1]
    rw [e]
    refine QaD (P:=P) (rd:=none) (n:=n) (ops:=ops) (Q:=Q) (T:=fun _=>True) (fun _ _ _ _ _=>trivial) ?_ A pre (o :: Qba r) (by rw [hops]; simp [Qba]) β S.reb a w hs.reb trivial h
    intro β1 S1 a1 w1 hs1 _ h1
    have hidx:ops[(pre ++ A).length]? = some o:=by
      have:ops.toList[(pre ++ A).length]? = some o:=by rw [hops]; simp [Qba]
      simpa using this
    have:=h1 n Q (wpOpsIn (wd none) n P ops Q (List.range' (pre ++ A ++ [o]).length (Qba r).length)) O β1 a1 w1 (hs.on (hΓ g) hs1) (fun β' S' g' a' w' hs' hk=>QeF hΓ hK r (pre ++ A ++ [o]) (by rw [hops]; simp [Qba]) β' S' g' a' w' hs' hk)
    simp only [wpOpsIn,hidx]
    split
    · rename_i hw; rw [if_pos hw] at this; exact this
    · rename_i hw; rw [if_neg hw] at this; exact ⟨fun _ _=>trivial,this⟩
theorem VWpG.region (hΓ:∀ g,Stable (Γ g)) {id:Nat} {ops:Array Oper} {Q:Exit->St->γ->Prop} {S:St} {g:γ} (ch:List (List Oper × Option Oper)) (hch:ops.toList = Qba ch) (h:Qxy P Γ ops ch (Q .normal) S g):VWpG P Γ (.region id ops false) Q S g:=fun O β a w hs=>by
  rw [<- wpIn_wide (n:=10)]
  refine wpIn_region (F:=wd none) ?_
  have:=QeF (n:=10) (P:=P) hΓ (Q:=QrX Γ O Q) (O:=O) (fun β S g a w h1 h2=>⟨β,S,g,h1,h2⟩) ch [] (by simpa using hch) β S g a w hs h
  rw [<- hch] at this
  simpa [List.range_eq_range'] using this
theorem SimG.put {G G':World->World->Map->Qa->Prop} {O:Org} {β:Map} {S:St} {a:Act} {w w':World} {dst:Option Tmp} {d:DV} {v:Value} (h:SimG G O β S a w) (u:Up w w') (ev:Evo O.w O.β O.hp w' β S.hp)
    (hf:S.fits dst = true) (hd:RelD w' β S.hp d v) (h6:G' O.w w' β S.hp):SimG G' O β (S.put dst d) (a.put dst v) w':=by
  refine ⟨by rw [Qbo]; exact h.defers,?_,fun t=>?_,by rw [St.put_hp]; exact h.heap.up u,by rw [St.put_hp]; exact ev,by rw [St.put_hp]; exact h6⟩
  · rw [Qcd,St.put_nt]; exact h.size
  · rw [St.put_hp]
    cases dst with
    | none=>exact (h.tm t).up u
    | some t0 =>
      have hlt:t0 < a.tmps.size:=by rw [h.size]; simpa [St.fits] using hf
      simp only [St.put,look,Act.put]
      split
      · rename_i e
        subst e
        simpa [Array.getD_eq_getD_getElem?,hlt] using hd
      · rename_i e
        have:=(h.tm t).up u
        simpa [Array.getD_eq_getD_getElem?,Array.getElem?_setIfInBounds,e] using this
theorem QfY {G:World->World->Map->Qa->Prop} {O:Org} {β:Map} {S:St} {a:Act} {w:World} (hs:SimG G O β S a w) {ops:Array Oper} {o:Oper} {b:Bool} (hG:QA ops.toList S o = some b):Region.wanted o (yielded ops a.tmps) = b:=by
  refine QK (ops:=ops) hs.reb ?_
  rw [<- hG]; rfl
theorem Qw8 {S:St} {G:World->World->Map->Qa->Prop} {O:Org} {β:Map} {a:Act} {w:World} (hs:SimG G O β S a w) (x:Operand):RelD w β S.hp (Qm true (S.ev x)) (a.eval x):=by
  have e:S.reb.ev x = S.ev x:=by cases x<;>rfl
  exact Qal (e ▸ hs.reb.ev x) rfl
end Go.V
namespace Go.V
open Go.MapKept
structure EvoC (w:World) (β:Map) (hp:Qa) (w':World) (β':Map) (hp':Qa):Prop where
  size:w.heap.size<=w'.heap.size
  len:hp.length<=hp'.length
  beta:∀ k,k < hp.length->β'.f k = β.f k
  same:∀ (b:Nat) (C:Array Value) (T:TypeId) (m:Nat × Nat),w.heap[b]? = some (.cells C T m)->¬ live β hp b->w'.heap[b]? = w.heap[b]?
  shape:∀ (b:Nat) (C:Array Value) (T:TypeId) (m:Nat × Nat),w.heap[b]? = some (.cells C T m)->∃ C' m',w'.heap[b]? = some (.cells C' T m')/\C'.size = C.size
  im:∀ b,b < w.heap.size->live β' hp' b->live β hp b
  X:β'.X = β.X
theorem Evo.toC {w w':World} {β β':Map} {hp hp':Qa} (e:Evo w β hp w' β' hp'):EvoC w β hp w' β' hp':=
  ⟨e.size,e.len,e.beta,fun b _ _ _ h hl=>e.same b (Array.getElem?_eq_some_iff.1 h).1 hl,e.shape,e.im,e.X⟩
theorem EvoC.refl (w:World) (β:Map) (hp:Qa):EvoC w β hp w β hp:=(Evo.refl w β hp).toC
theorem Up.toC {w w':World} (u:Up w w') (β:Map) (hp:Qa):EvoC w β hp w' β hp:=
  ⟨u.size,Nat.le_refl _,fun _ _=>rfl,fun b C T m h _=>by rw [u.same b C T m h,h],fun b C T m h=>⟨C,m,u.same b C T m h,rfl⟩,fun _ _ h=>h,rfl⟩
theorem EvoC.trans {w0 w1 w2:World} {β0 β1 β2:Map} {h0 h1 h2:Qa} (a:EvoC w0 β0 h0 w1 β1 h1) (b:EvoC w1 β1 h1 w2 β2 h2):EvoC w0 β0 h0 w2 β2 h2:=by
  refine ⟨Nat.le_trans a.size b.size,Nat.le_trans a.len b.len,fun k hk=>by rw [b.beta k (Nat.lt_of_lt_of_le hk a.len),a.beta k hk],fun x C T m h hl=>?_,fun x C T m h=>?_,fun x hx h=>a.im x hx (b.im x (Nat.lt_of_lt_of_le hx a.size) h),b.X.trans a.X⟩
  · have e1:=a.same x C T m h hl
    rw [b.same x C T m (e1.trans h) (fun h'=>hl (a.im x (Array.getElem?_eq_some_iff.1 h).1 h')),e1]
  · obtain ⟨C',m',h',e⟩:=a.shape x C T m h
    obtain ⟨C'',m'',h'',e'⟩:=b.shape x C' T m' h'
    exact ⟨C'',m'',h'',e'.trans e⟩
theorem QgY {w w':World} {a:Addr} {v:Value} (h:w.cell? a = some v) (hs:∀ (C:Array Value) (T:TypeId) (m:Nat × Nat),w.heap[a.block]? = some (.cells C T m)->w'.heap[a.block]? = w.heap[a.block]?):w'.cell? a = some v:=by
  obtain ⟨o,ho,hc⟩:=cells_of_cell h
  cases o with
  | cells C T m=>rw [QcU (hs C T m ho)]; exact h
  | _=>simp [Obj.isCells] at hc
theorem RelP.monoC {w w':World} {im im':Nat->Prop} {p:PV} {v:Value} (h:RelP w im p v)
    (hsz:w.heap.size<=w'.heap.size) (hs:∀ (b:Nat) (C:Array Value) (T:TypeId) (m:Nat × Nat),w.heap[b]? = some (.cells C T m)->¬ im b->w'.heap[b]? = w.heap[b]?) (hi:∀ b,b < w.heap.size->im' b->im b):RelP w' im' p v:=by
  induction h with
  | lit v h=>exact .lit v h
  | str l=>exact .str l
  | sl xs a cap sz val h1 h2 h3 h4 h5 _ ih =>
    refine .sl xs a cap sz val h1 h2 h3 h4 (fun i j c d hc hd=>?_) (fun i j c d hc hd=>ih i j c d hc hd)
    obtain ⟨ad,e,hb,hn,hcell⟩:=h5 i j c d hc hd
    exact ⟨ad,e,Nat.lt_of_lt_of_le hb hsz,fun x=>hn (hi _ hb x),QgY hcell fun C T m h=>hs _ C T m h hn⟩
  | slc xs a sz val h2 h3 h4 h5 _ ih =>
    refine .slc xs a sz val h2 h3 h4 (fun i j c d hc hd=>?_) (fun i j c d hc hd=>ih i j c d hc hd)
    obtain ⟨ad,e,hb,hn,hcell⟩:=h5 i j c d hc hd
    exact ⟨ad,e,Nat.lt_of_lt_of_le hb hsz,fun x=>hn (hi _ hb x),QgY hcell fun C T m h=>hs _ C T m h hn⟩
theorem EvoC.img {w w':World} {β β':Map} {hp hp':Qa} (e:EvoC w β hp w' β' hp'):∀ b,b < w.heap.size->img β' hp' b->img β hp b:=
  fun b h l=>l.imp (fun x=>by rw [<- e.X]; exact x) (e.im b h)
theorem RelD.monoC {w w':World} {β β':Map} {hp hp':Qa} {d:DV} {v:Value} (h:RelD w β hp d v) (e:EvoC w β hp w' β' hp'):RelD w' β' hp' d v:=by
  have hs:∀ (b:Nat) (C:Array Value) (T:TypeId) (m:Nat × Nat),w.heap[b]? = some (.cells C T m)->¬ V.img β hp b->w'.heap[b]? = w.heap[b]?:=fun b C T m h n=>e.same b C T m h fun l=>n (.inr l)
  induction h with
  | pv p v h=>exact .pv p v (h.monoC e.size hs e.img)
  | ptr k off b h hb=>exact .ptr k off b (Nat.lt_of_lt_of_le h e.len) ((e.beta k h).trans hb)
  | own k sz off len cap b C T m h hb h1 h2 h3 h4 =>
    obtain ⟨C',m',h3',hs⟩:=e.shape _ _ _ _ h3
    exact .own k sz off len cap b C' T m' (Nat.lt_of_lt_of_le h e.len) ((e.beta k h).trans hb) h1 h2 h3' (by rw [hs]; exact h4)
  | ownc k sz off len cap b o C T m h hb h1 h2 h3 h4 h5 =>
    obtain ⟨C',m',h3',hs⟩:=e.shape _ _ _ _ h3
    exact .ownc k sz off len cap b o C' T m' (Nat.lt_of_lt_of_le h e.len) ((e.beta k h).trans hb) h1 h2 h3' (by rw [hs]; exact h4) h5
  | own0 k sz a h hb ha=>exact .own0 k sz a (Nat.lt_of_lt_of_le h e.len) ((e.beta k h).trans hb) ha
  | ip cs ad val h1 h2 h3 =>
    refine .ip cs ad val h1 (fun j d hd=>?_) (fun j d hd=>(h3 j d hd).monoC e.size hs e.img)
    obtain ⟨a,b,c⟩:=h2 j d hd
    exact ⟨Nat.lt_of_lt_of_le a e.size,fun x=>b (e.img _ a x),QgY c fun C T m h=>hs _ C T m h b⟩
  | agg ds vs h _ ih=>exact .agg ds vs h ih
  | fn f ds es vs us h h' _ _ ih ih'=>exact .fn f ds es vs us h h' ih ih'
  | tup ds vs h _ ih=>exact .tup ds vs h ih
  | opt c d v _ hf ih=>exact .opt c d v ih hf
  | any v=>exact .any v
abbrev QCy:=List (Value × DV)
abbrev MapsD:=List (Nat × QCy)
structure MapAt (w:World) (β:Map) (hp:Qa) (b:Nat) (L:QCy):Prop where
  at_:∃ es clock,w.heap[b]? = some (.map es clock)/\Stamped es clock/\es.toList.map (·.key) = L.map (·.1)/\∀ (i:Nat) (e:MapEntry) (p:Value × DV),es.toList[i]? = some e->L[i]? = some p->RelD w β hp p.2 e.val
def Qxf (g:MapsD) (w0 w:World) (β:Map) (hp:Qa):Prop:=(g.map (·.1)).Nodup/\∀ p ∈ g,w0.heap.size<=p.1/\MapAt w β hp p.1 p.2
abbrev Qpl:=World × Map × Qa
def MapsD.At (c:Qpl) (g:MapsD) (w0 w:World) (β:Map) (hp:Qa):Prop:=Qxf g w0 w β hp/\EvoC c.1 c.2.1 c.2.2 w β hp
abbrev Qcm (c:Qpl):MapsD->World->World->Map->Qa->Prop:=fun g=>MapsD.At c g
theorem MapAt.go {w w':World} {β β':Map} {hp hp':Qa} {b:Nat} {L:QCy} (h:MapAt w β hp b L) (e:EvoC w β hp w' β' hp') (hb:w'.heap[b]? = w.heap[b]?):MapAt w' β' hp' b L:=by
  obtain ⟨es,clock,h1,h2,h3,h4⟩:=h.at_
  exact ⟨es,clock,hb.trans h1,h2,h3,fun i e' p q1 q2=>(h4 i e' p q1 q2).monoC e⟩
theorem Qc (c:Qpl) (g:MapsD):Stable (Qcm c g):=fun w0 w β hp w' β' hp' hh e h=>⟨⟨h.1.1,fun p hp=>by
  obtain ⟨h1,h2⟩:=h.1.2 p hp
  obtain ⟨es,clock,q,_⟩:=h2.at_
  exact ⟨h1,h2.go e.toC ((Evo.others hh e).same _ _ q rfl |>.trans q.symm)⟩⟩,h.2.trans e.toC⟩
structure KeyT (P:Program) (kt:TypeId) {κ:Type} [DecidableEq κ] (enc:κ->Value):Prop where
  check:∀ (e:Bool) (w:World) (k:κ),(Instr.checkKey e 10000 kt (enc k)).run P w = .ok () w
  find:∀ (w:World) (k:κ) (l:List MapEntry) (ks:List κ),l.map (·.key) = ks.map enc->(Instr.findKey kt (enc k) l).run P w = .ok ((ks.findIdx? (fun x=>decide (x = k))).bind fun i=>(l[i]?).map fun e=>(i,e.val)) w
  stays:∀ (w:World) (k:κ),(Instr.keyThatStays (enc k) (enc k)).run P w = .ok (enc k) w
  inj:∀ a b,enc a = enc b->a = b
theorem QgT {q:IntKind} {k:Int}:∀ {l:List MapEntry} {ks:List Int} {i:Nat},l.map (·.key) = ks.map (fun x=>Value.int .i64 x)->Instr.findNow (.int q) (.int .i64 k) l i = some ((ks.findIdx? (fun x=>decide (x = k))).bind fun j=>(l[j]?).map fun e=>(i + j,e.val))
  | [],[],i,_=>rfl
  | [],_ :: _,_,h=>by simp at h
  | _ :: _,[],_,h=>by simp at h
  | e :: l,a :: ks,i,h=>by
    simp only [List.map_cons,List.cons.injEq] at h
    have hs:Instr.sameNow (.int q) (.int .i64 k) e.key = some (k == a):=by rw [h.1]; simp [Instr.sameNow]
    by_cases hka:a = k
    · subst hka
      simp [Instr.findNow,hs,List.findIdx?_cons]
    · have hb:(k == a) = false:=by simpa using fun h=>hka h.symm
      have:=QgT (q:=q) (k:=k) (i:=i + 1) h.2
      simp only [Instr.findNow,hs,hb,this,List.findIdx?_cons,decide_eq_false hka]
      cases hf:ks.findIdx? (fun x=>decide (x = k)) with
      | none=>simp [hf]
      | some j=>simp [hf]; congr 1; funext x; simp; omega
theorem QvC {P:Program} {kt:TypeId} (hk:P.underlying kt = some (.int .i64)):KeyT P kt (fun x:Int=>Value.int .i64 x):=
  ⟨fun e w k=>run_checkKey hk (by simp [IsKey]) e 9999,fun w k l ks h=>by rw [run_findKey hk (QgT (i:=0) h)]; simp,fun w k=>by simp [Instr.keyThatStays,Instr.sameBits],fun a b h=>by simpa using h⟩
section
variable {κ:Type} [DecidableEq κ]
def QcQ (enc:κ->Value) (L:List (κ × DV)):QCy:=L.map fun p=>(enc p.1,p.2)
def QgP:List (κ × DV)->κ->Option DV
  | [],_=>none
  | (a,x) :: r,k=>if a = k then some x else QgP r k
def Qha:List (κ × DV)->κ->DV->List (κ × DV)
  | [],k,v=>[(k,v)]
  | (a,x) :: r,k,v=>if a = k then (a,v) :: r else (a,x) :: Qha r k v
theorem Qnr (L:List (κ × DV)) (k:κ) (v:DV) (k':κ):QgP (Qha L k v) k' = if k = k' then some v else QgP L k':=by
  induction L with
  | nil=>simp [Qha,QgP]
  | cons p r ih =>
    obtain ⟨a,x⟩:=p
    by_cases h:a = k
    · subst h
      simp only [Qha,QgP,if_true]
      split<;>rfl
    · simp only [Qha,if_neg h,QgP,ih]
      by_cases h':a = k'
      · subst h'
        rw [if_pos rfl,if_neg (Ne.symm h),if_pos rfl]
      · rw [if_neg h',if_neg h']
theorem QvN (L:List (κ × DV)) (k:κ):QgP L k = ((L.map (·.1)).findIdx? (fun x=>decide (x = k))).bind fun i=>(L[i]?).map (·.2):=by
  induction L with
  | nil=>rfl
  | cons p r ih =>
    obtain ⟨a,x⟩:=p
    by_cases h:a = k
    · subst h; simp [QgP,List.findIdx?_cons]
    · simp only [QgP,if_neg h,ih,List.map_cons,List.findIdx?_cons,decide_eq_false h]
      cases hf:(r.map (·.1)).findIdx? (fun x=>decide (x = k))<;>simp [hf]
theorem Qrz (L:List (κ × DV)) (k:κ) (v:DV) (h:(L.map (·.1)).findIdx? (fun x=>decide (x = k)) = none):Qha L k v = L ++ [(k,v)]/\∀ p ∈ L,p.1 ≠ k:=by
  induction L with
  | nil=>simp [Qha]
  | cons p r ih =>
    obtain ⟨a,x⟩:=p
    simp only [List.map_cons,List.findIdx?_cons] at h
    by_cases ha:a = k
    · simp [ha] at h
    · simp only [decide_eq_false ha,Bool.false_eq_true,if_false,Option.map_eq_none_iff] at h
      obtain ⟨h1,h2⟩:=ih h
      exact ⟨by simp [Qha,ha,h1],by simp [ha]; intro a' b hm; exact h2 (a',b) hm⟩
theorem Qry (L:List (κ × DV)) (k:κ) (v:DV) {i:Nat} (h:(L.map (·.1)).findIdx? (fun x=>decide (x = k)) = some i):Qha L k v = L.set i (k,v)/\∃ d,L[i]? = some (k,d):=by
  induction L generalizing i with
  | nil=>simp at h
  | cons p r ih =>
    obtain ⟨a,x⟩:=p
    simp only [List.map_cons,List.findIdx?_cons] at h
    by_cases ha:a = k
    · simp [ha] at h
      subst h
      simp [Qha,ha]
    · simp only [decide_eq_false ha,Bool.false_eq_true,if_false,Option.map_eq_some_iff] at h
      obtain ⟨j,hj,rfl⟩:=h
      obtain ⟨h1,d,h2⟩:=ih hj
      exact ⟨by simp [Qha,ha,h1],d,by simpa using h2⟩
end
end Go.V
namespace Go.V
open Go.MapKept
variable {P:Program} {γ:Type} {Γ:γ->World->World->Map->Qa->Prop}
def Qlc (P:Program) (Γ:γ->World->World->Map->Qa->Prop) (o:Oper) (K:St->γ->Prop) (S:St) (g:γ):Prop :=
  ∀ (O:Org) (β:Map) (a:Act) (w:World),SimG (Γ g) O β S a w ->
    ∃ v w',((execOp a.eval o).run P w = .ok (.value v) w'\/((execOp a.eval o).run P w = .ok .skip w'/\v = undef))/\∃ β' S' g',SimG (Γ g') O β' S' (a.put o.dst v) w'/\K S' g'
theorem Qdf {ops:Array Oper} {o:Oper} {K:St->γ->Prop} {S:St} {g:γ} (hG:QA ops.toList S o = some true) (nd:∀ c,o.op ≠ .defer c) (h:Qlc P Γ o K S g):OpG P Γ ops o K S g:=fun n Q next O β a w hs hn=>by
  rw [QfY hs hG,if_pos rfl]
  obtain ⟨v,w',h1,β',S',g',h2,h3⟩:=h O β a w hs
  refine ⟨fun _ _=>trivial,?_⟩
  rw [Oper.semAt_plain _ _ _ nd]
  rcases h1 with h1 | ⟨h1,rfl⟩
  · rw [h1]; exact hn _ _ _ _ _ h2 h3
  · rw [h1]; exact hn _ _ _ _ _ h2 h3
theorem Qd6 {κ:Type} [DecidableEq κ] {enc:κ->Value} {w:World} {β:Map} {hp:Qa} {t kt et:TypeId} (ht:P.underlying t = some (.map kt et)) (hk:KeyT P kt enc) {z:DV} {zv:Value} (hz:∀ w,(zeroValue et).run P w = .ok zv w) (hzr:∀ w β hp,RelD w β hp z zv)
    {b:Nat} {L:List (κ × DV)} (h:MapAt w β hp b (QcQ enc L)) (k:κ) (c:Bool) :
    ∃ v,(Instr.lookup t (.map (some b)) (enc k) c).run P w = .ok (if c then .tuple #[v,.bool (QgP L k).isSome] else v) w/\RelD w β hp ((QgP L k).getD z) v:=by
  obtain ⟨es,clock,h1,h2,h3,h4⟩:=h.at_
  have hf:=hk.find w k es.toList (L.map (·.1)) (by rw [h3]; simp [QcQ])
  have hlen:es.toList.length = L.length:=by have:=congrArg List.length h3; simpa [QcQ] using this
  rw [QvN]
  unfold Instr.lookup
  simp only [Sem.run_bind,run_underlying ht,Result.andThen,Go.MapKept.run_getObj_map h1,Sem.run_pure,hk.check,hf]
  cases hi:(L.map (·.1)).findIdx? (fun x=>decide (x = k)) with
  | none=>exact ⟨zv,by cases c<;>simp [hz,Result.andThen],by simpa using hzr w β hp⟩
  | some i =>
    have hlt:i < L.length:=by
      have:=(List.findIdx?_eq_some_iff_findIdx_eq.1 hi).1
      simpa using this
    have e1:L[i]? = some L[i]:=List.getElem?_eq_getElem hlt
    have e2:es.toList[i]? = some es.toList[i]:=List.getElem?_eq_getElem (by omega)
    have hr:=h4 i _ (enc L[i].1,L[i].2) e2 (by simp [QcQ,e1])
    refine ⟨es.toList[i].val,?_,?_⟩
    · simp only [Option.bind_some,e2,Option.map_some,e1]
      cases c<;>simp
    · simp only [Option.bind_some,e1,Option.map_some,Option.getD_some]; exact hr
theorem Qet {c:Qpl} {o:Oper} {K:St->MapsD->Prop} {S:St} {g:MapsD} {t:TypeId} (hop:o.op = .makeMap t none) (hf:S.fits o.dst = true)
    (hK:∀ b,(∀ p ∈ g,p.1 ≠ b)->K (S.put o.dst (Qcn o.guard true (.pv (.lit (.map (some b)))))) ((b,[]) :: g)):Qlc P (Qcm c) o K S g:=fun O β a w hs=>by
  have hgr:=World.grownBy_alloc w (.map #[] 0) none
  have e1:=Go.MapKept.heap_alloc w (.map #[] 0)
  have hu:Up w (w.alloc (.map #[] 0)):=Up.grown hgr (by simp)
  have fresh:∀ p ∈ g,p.1 ≠ w.heap.size:=fun p hp he=>by
    obtain ⟨es,clock,q,_⟩:=(hs.g.1.2 p hp).2.at_
    rw [he] at q
    simp at q
  refine ⟨.map (some w.heap.size),w.alloc (.map #[] 0),.inl ?_,β,_,_,hs.put hu (hs.evo.grown hgr (by simp)) hf (Qaq (.pv _ _ (.lit _ rfl))) ⟨⟨?_,?_⟩,hs.g.2.trans (hu.toC _ _)⟩,hK w.heap.size fresh⟩
  · simp [execOp,hop]
    rfl
  · rw [List.map_cons,List.nodup_cons]
    refine ⟨fun hm=>?_,hs.g.1.1⟩
    obtain ⟨p,hp,he⟩:=List.mem_map.1 hm
    exact fresh p hp he
  · intro p hp
    rcases List.mem_cons.1 hp with rfl | hp
    · exact ⟨hs.evo.size,⟨#[],0,e1.1,stamped_empty 0,rfl,fun i e p h=>by simp at h⟩⟩
    · obtain ⟨h1,h2⟩:=hs.g.1.2 p hp
      obtain ⟨es,clock,q,_⟩:=h2.at_
      exact ⟨h1,h2.go (hu.toC _ _) (e1.2 _ (Array.getElem?_eq_some_iff.1 q).1)⟩
theorem QkX {κ:Type} [DecidableEq κ] {enc:κ->Value} {c:Qpl} {o:Oper} {K:St->MapsD->Prop} {S:St} {g:MapsD} {t kt et:TypeId} {m x:Operand} {b:Nat} {L:List (κ × DV)} {k:κ} {z:DV} {zv:Value} (hop:o.op = .lookup t m x false) (hf:S.fits o.dst = true)
    (ht:P.underlying t = some (.map kt et)) (hk:KeyT P kt enc) (hz:∀ w,(zeroValue et).run P w = .ok zv w) (hzr:∀ w β hp,RelD w β hp z zv) (hm:Qm true (S.ev m) = .pv (.lit (.map (some b)))) (hL:(b,QcQ enc L) ∈ g) (hx:∀ (w:World) (β:Map) (hp:Qa) (v:Value),RelD w β hp (Qm true (S.ev x)) v->v = enc k)
    (hK:K (S.put o.dst (Qcn o.guard true ((QgP L k).getD z))) g):Qlc P (Qcm c) o K S g:=fun O β a w hs=>by
  obtain ⟨-,h2⟩:=hs.g.1.2 _ hL
  have em:=Qw8 hs m
  rw [hm] at em
  have ex:=hx _ _ _ _ (Qw8 hs x)
  obtain ⟨v,r1,r2⟩:=Qd6 ht hk hz hzr h2 k false
  refine ⟨v,w,.inl ?_,β,_,g,hs.put ⟨Nat.le_refl _,fun _ _ _ _ h=>h⟩ hs.evo hf (Qaq r2) hs.g,hK⟩
  simp only [execOp,hop,Qi em,ex]
  simp [r1,Result.andThen]
theorem QgU {κ:Type} [DecidableEq κ] {enc:κ->Value} {c:Qpl} {o:Oper} {K:St->MapsD->Prop} {S:St} {g:MapsD} {t kt et:TypeId} {m x:Operand} {b:Nat} {L:List (κ × DV)} {k:κ} {z:DV} {zv:Value} (hop:o.op = .lookup t m x true) (hf:S.fits o.dst = true)
    (ht:P.underlying t = some (.map kt et)) (hk:KeyT P kt enc) (hz:∀ w,(zeroValue et).run P w = .ok zv w) (hzr:∀ w β hp,RelD w β hp z zv) (hm:Qm true (S.ev m) = .pv (.lit (.map (some b)))) (hL:(b,QcQ enc L) ∈ g) (hx:∀ (w:World) (β:Map) (hp:Qa) (v:Value),RelD w β hp (Qm true (S.ev x)) v->v = enc k)
    (hK:K (S.put o.dst (Qcn o.guard true (.tup [(QgP L k).getD z,.bool (QgP L k).isSome]))) g):Qlc P (Qcm c) o K S g:=fun O β a w hs=>by
  obtain ⟨-,h2⟩:=hs.g.1.2 _ hL
  have em:=Qw8 hs m
  rw [hm] at em
  have ex:=hx _ _ _ _ (Qw8 hs x)
  obtain ⟨v,r1,r2⟩:=Qd6 ht hk hz hzr h2 k true
  refine ⟨.tuple #[v,.bool (QgP L k).isSome],w,.inl ?_,β,_,g,hs.put ⟨Nat.le_refl _,fun _ _ _ _ h=>h⟩ hs.evo hf (Qaq (.tup _ _ rfl fun i d hd=>?_)) hs.g,hK⟩
  · simp only [execOp,hop,Qi em,ex]
    simp [r1,Result.andThen]
  · match i with
    | 0=>simp at hd; subst hd; exact r2
    | 1=>simp at hd; subst hd; exact .pv _ _ (.lit _ rfl)
    | i + 2=>simp at hd
theorem QiK {κ:Type} [DecidableEq κ] {enc:κ->Value} {w:World} {β:Map} {hp:Qa} {t kt et:TypeId} (ht:P.underlying t = some (.map kt et)) (hk:KeyT P kt enc) {b:Nat} {L:List (κ × DV)} (h:MapAt w β hp b (QcQ enc L)) (k:κ) {d:DV} {v:Value} (hd:RelD w β hp d v) :
    ∃ es' clock',(Instr.mapUpdate t (.map (some b)) (enc k) v).run P w = .ok () { w with heap:=w.heap.setIfInBounds b (.map es' clock') }/\Stamped es' clock'/\es'.toList.map (·.key) = (QcQ enc (Qha L k d)).map (·.1) /\
      ∀ (i:Nat) (e:MapEntry) (p:Value × DV),es'.toList[i]? = some e->(QcQ enc (Qha L k d))[i]? = some p->RelD w β hp p.2 e.val:=by
  obtain ⟨es,clock,h1,h2,h3,h4⟩:=h.at_
  have h3':es.toList.map (·.key) = (L.map (·.1)).map enc:=by rw [h3]; simp [QcQ]
  have hf:=hk.find w k es.toList (L.map (·.1)) h3'
  have hlen:es.toList.length = L.length:=by have:=congrArg List.length h3; simpa [QcQ] using this
  cases hi:(L.map (·.1)).findIdx? (fun x=>decide (x = k)) with
  | none =>
    obtain ⟨p1,p2⟩:=Qrz L k d hi
    rw [hi] at hf
    refine ⟨es.push { key:=enc k,val:=v,born:=clock },clock + 1,?_,stamped_push h2 (fun x hx he=>?_),?_,fun i e p q1 q2=>?_⟩
    · unfold Instr.mapUpdate
      simp only [Sem.run_bind,run_underlying ht,Result.andThen,Go.MapKept.run_getObj_map h1,hk.check,hf,Option.bind_none,Go.MapKept.run_setObj_map _ h1]
    · have:x.key ∈ (L.map (·.1)).map enc:=by rw [<- h3']; exact List.mem_map.2 ⟨x,hx,rfl⟩
      obtain ⟨y,hy,e⟩:=List.mem_map.1 this
      obtain ⟨q,hq,rfl⟩:=List.mem_map.1 hy
      exact p2 q hq (hk.inj _ _ (e.trans he))
    · rw [p1]; simp [QcQ,h3']
    · rw [p1] at q2
      simp only [QcQ,List.map_append,List.map_cons,List.map_nil] at q2
      simp only [Array.toList_push] at q1
      by_cases hlt:i < L.length
      · rw [List.getElem?_append_left (by omega)] at q1
        rw [List.getElem?_append_left (by simpa using hlt)] at q2
        exact h4 i e p q1 q2
      · rw [List.getElem?_append_right (by omega)] at q1
        rw [List.getElem?_append_right (by simp; omega)] at q2
        simp only [List.length_map] at q2
        have:i - L.length = 0:=by
          cases hj:i - L.length with
          | zero=>rfl
          | succ j=>rw [hj] at q2; simp at q2
        rw [this] at q2
        rw [hlen,this] at q1
        simp at q1 q2
        subst q1; subst q2
        exact hd
  | some i =>
    obtain ⟨p1,d0,p2⟩:=Qry L k d hi
    have hlt:i < L.length:=(List.getElem?_eq_some_iff.1 p2).1
    have e2:es.toList[i]? = some es.toList[i]:=List.getElem?_eq_getElem (by omega)
    have hkey:es.toList[i].key = enc k:=by
      have:=congrArg (fun l=>l[i]?) h3'
      simp only [List.getElem?_map,e2,p2,Option.map_some,Option.some.injEq] at this
      exact this
    rw [hi,Option.bind_some,e2] at hf
    have hm:∀ e ∈ es.toList,es[i]? = some e->enc k = e.key:=fun e _ he=>by
      have:es.toList[i]? = some e:=by simpa using he
      rw [e2] at this
      simp only [Option.some.injEq] at this
      rw [<- this,hkey]
    refine ⟨es.modify i fun e=>{ e with key:=enc k,val:=v },clock,?_,stamped_modify h2 i _ (fun _ _=>rfl) (fun e h1 h2=>hm e h1 h2),?_,fun j e p q1 q2=>?_⟩
    · have e1:((es[i]?).map (·.key)).getD (enc k) = enc k:=by
        have:es[i]? = some es.toList[i]:=by simp
        rw [this]; exact hkey
      unfold Instr.mapUpdate
      simp only [Sem.run_bind,run_underlying ht,Result.andThen,Go.MapKept.run_getObj_map h1,hk.check,hf,Option.map_some,e1,hk.stays,Go.MapKept.run_setObj_map _ h1]
    · rw [modify_keys i _ (fun e he=>by
        have h':es.toList[i]? = some e:=by simpa using he
        exact hm e (List.mem_of_getElem? h') he),h3',p1]
      have hs:(L.set i (k,d)).map (·.1) = L.map (·.1):=by
        rw [List.map_set]
        apply List.ext_getElem?
        intro j
        rw [List.getElem?_set]
        split
        · rename_i hij
          subst hij
          rw [if_pos (by simpa using hlt),List.getElem?_map,p2]
          rfl
        · rfl
      rw [<- hs]
      simp only [QcQ,List.map_map]
      rfl
    · rw [p1] at q2
      by_cases hij:i = j
      · subst hij
        have q1':(es.modify i fun e=>{ e with key:=enc k,val:=v })[i]? = some e:=by rw [<- Array.getElem?_toList]; exact q1
        rw [Array.getElem?_modify,if_pos rfl] at q1'
        have e2':es[i]? = some es.toList[i]:=by simp
        rw [e2'] at q1'
        simp at q1'
        subst q1'
        simp [QcQ,List.getElem?_set,hlt] at q2
        subst q2
        exact hd
      · have q1':(es.modify i fun e=>{ e with key:=enc k,val:=v })[j]? = some e:=by rw [<- Array.getElem?_toList]; exact q1
        rw [Array.getElem?_modify,if_neg hij] at q1'
        refine h4 j e p (by simpa using q1') ?_
        simpa [QcQ,List.getElem?_set,hij] using q2
theorem QyM {c:Qpl} {O:Org} {w:World} {β:Map} {hp:Qa} {g:MapsD} (hg:MapsD.At c g O.w w β hp) {b:Nat} {L L':QCy} (hL:(b,L) ∈ g) {es:Array MapEntry} {clock:Nat} (h1:Stamped es clock) (h2:es.toList.map (·.key) = L'.map (·.1))
    (h3:∀ (i:Nat) (e:MapEntry) (p:Value × DV),es.toList[i]? = some e->L'[i]? = some p->RelD w β hp p.2 e.val) :
    Up w { w with heap:=w.heap.setIfInBounds b (.map es clock) }/\(∀ {w0 β0 hp0},Evo w0 β0 hp0 w β hp->w0 = O.w->Evo w0 β0 hp0 { w with heap:=w.heap.setIfInBounds b (.map es clock) } β hp)/\MapsD.At c (g.map fun p=>if p.1 = b then (b,L') else p) O.w { w with heap:=w.heap.setIfInBounds b (.map es clock) } β hp:=by
  obtain ⟨hb,h⟩:=hg.1.2 _ hL
  obtain ⟨es0,clock0,q,_⟩:=h.at_
  obtain ⟨s1,s2⟩:=Go.MapKept.heap_set (o':=.map es clock) q
  have hgr:w.grownBy { w with heap:=w.heap.setIfInBounds b (.map es clock) } (some b):=⟨rfl,rfl,rfl,by simp,fun i hi hne=>s2 i (fun e=>hne (by rw [e]))⟩
  have hr:∀ r,some b = some r->O.w.heap.size<=r/\∃ o:Obj,w.heap[r]? = some o/\o.isCells = false:=fun r e=>by cases e; exact ⟨hb,_,q,rfl⟩
  have hu:Up w { w with heap:=w.heap.setIfInBounds b (.map es clock) }:=Up.grown hgr fun r e=>(hr r e).2
  refine ⟨hu,fun {w0 β0 hp0} ev e=>?_,⟨⟨?_,fun p hp=>?_⟩,hg.2.trans (hu.toC _ _)⟩⟩
  · subst e; exact ev.grown hgr hr
  · have e:(g.map fun p=>if p.1 = b then (b,L') else p).map (·.1) = g.map (·.1):=by
      rw [List.map_map]
      refine List.map_congr_left fun p _=>?_
      simp only [Function.comp]
      split
      · rename_i he; exact he.symm
      · rfl
    rw [e]; exact hg.1.1
  · obtain ⟨q',hq',rfl⟩:=List.mem_map.1 hp
    split
    · exact ⟨hb,es,clock,s1,h1,h2,fun i e p q1 q2=>(h3 i e p q1 q2).up hu⟩
    · rename_i he
      obtain ⟨k1,k2⟩:=hg.1.2 q' hq'
      exact ⟨k1,k2.go (hu.toC _ _) (s2 _ he)⟩
theorem Qja {κ:Type} [DecidableEq κ] {enc:κ->Value} {c:Qpl} {o:Oper} {K:St->MapsD->Prop} {S:St} {g:MapsD} {t kt et:TypeId} {m x y:Operand} {b:Nat} {L:List (κ × DV)} {k:κ} (hop:o.op = .mapUpdate t m x y) (hf:S.fits o.dst = true)
    (ht:P.underlying t = some (.map kt et)) (hk:KeyT P kt enc) (hm:Qm true (S.ev m) = .pv (.lit (.map (some b)))) (hL:(b,QcQ enc L) ∈ g) (hx:∀ (w:World) (β:Map) (hp:Qa) (v:Value),RelD w β hp (Qm true (S.ev x)) v->v = enc k)
    (hK:K (S.put o.dst (Qcn o.guard true (.tup []))) (g.map fun p=>if p.1 = b then (b,QcQ enc (Qha L k (Qm true (S.ev y)))) else p)):Qlc P (Qcm c) o K S g:=fun O β a w hs=>by
  obtain ⟨h1,h2⟩:=hs.g.1.2 _ hL
  have em:=Qw8 hs m
  rw [hm] at em
  have ex:=hx _ _ _ _ (Qw8 hs x)
  have ey:=Qw8 hs y
  obtain ⟨es',clock',r1,r2,r3,r4⟩:=QiK ht hk h2 k ey
  obtain ⟨u1,u2,u3⟩:=QyM (L':=QcQ enc (Qha L k (Qm true (S.ev y)))) hs.g hL r2 r3 r4
  refine ⟨undef,_,.inr ⟨?_,rfl⟩,β,_,_,hs.put u1 (u2 hs.evo rfl) hf (Qaq (.tup [] #[] rfl (by simp))) u3,hK⟩
  simp only [execOp,hop,Qi em,ex]
  simp [r1,Result.andThen]
end Go.V
namespace Go.V
variable {P:Program} {γ:Type} {Γ:γ->World->World->Map->Qa->Prop} {ops:Array Oper}
def QaL (ops:Array Oper) (i:Nat):List Nat:=match ops[i]? with | some o=>(o.after.toList.filter fun e=>Region.binds .any e).map (·.on) | none=>[]
def Qk6 (ops:Array Oper):Nat->Nat->List Nat
  | 0,_=>[]
  | f + 1,i=>QaL ops i ++ (QaL ops i).flatMap (Qk6 ops f)
def QlF (ops:Array Oper) (k f:Nat):Bool:=
  decide (k < ops.size) && (List.range ops.size).all (fun i=>(QaL ops i).all fun j=>decide (j < i)) &&
  (List.range k).all (fun i=>(Qk6 ops f k).contains i) &&
  (List.range ops.size).all fun j=>decide (j<=k) || ((Qk6 ops f j).contains k && match ops[j]? with | some o=>o.guard.isNone | none=>false)
structure SplitOk (ops:Array Oper) (k f:Nat):Prop where
  lt:k < ops.size
  back:∀ i,i < ops.size->∀ j ∈ QaL ops i,j < i
  pre:∀ i,i < k->i ∈ Qk6 ops f k
  post:∀ j,k < j->j < ops.size->k ∈ Qk6 ops f j/\∃ o,ops[j]? = some o/\o.guard = none
theorem QjT {k f:Nat} (h:QlF ops k f = true):SplitOk ops k f:=by
  simp only [QlF,Bool.and_eq_true,decide_eq_true_eq] at h
  obtain ⟨⟨⟨h1,h2⟩,h3⟩,h4⟩:=h
  refine ⟨h1,fun i hi j hj=>?_,fun i hi=>?_,fun j hj hlt=>?_⟩
  · have:=List.all_eq_true.1 (List.all_eq_true.1 h2 i (List.mem_range.2 hi)) j hj
    simpa using this
  · have:=List.all_eq_true.1 h3 i (List.mem_range.2 hi)
    simpa using this
  · have:=List.all_eq_true.1 h4 j (List.mem_range.2 hlt)
    simp only [Bool.or_eq_true,decide_eq_true_eq,Bool.and_eq_true] at this
    rcases this with this | ⟨e1,e2⟩
    · omega
    · refine ⟨by simpa using e1,ops[j],Array.getElem?_eq_getElem hlt,?_⟩
      rw [Array.getElem?_eq_getElem hlt] at e2
      simpa using e2
def ClosedL (ops:Array Oper) (L:Array Bool):Prop:=∀ i,L.getD i false = true->∀ j ∈ QaL ops i,L.getD j false = true
theorem Qdr {L:Array Bool} (hc:ClosedL ops L):∀ (f i:Nat),(∀ j ∈ QaL ops i,L.getD j false = true)->∀ j ∈ Qk6 ops f i,L.getD j false = true
  | 0,_,_,j,hj=>by simp [Qk6] at hj
  | f + 1,i,h,j,hj=>by
    simp only [Qk6,List.mem_append,List.mem_flatMap] at hj
    rcases hj with hj | ⟨m,hm,hj⟩
    · exact h j hj
    · exact Qdr hc f m (hc m (h m hm)) j hj
theorem mem_ready' {L:Array Bool} {i:Nat}:i ∈ Region.ready .any ops L ↔ i < ops.size/\L.getD i true = false/\∀ j ∈ QaL ops i,L.getD j false = true:=by
  rw [mem_ready]
  constructor
  · rintro ⟨h1,o,ho,h2⟩
    refine ⟨(Array.getElem?_eq_some_iff.1 ho).1,h1,fun j hj=>?_⟩
    simp only [QaL,ho,List.mem_map,List.mem_filter] at hj
    obtain ⟨e,⟨he,hb⟩,rfl⟩:=hj
    exact h2 e (by simpa using he) hb
  · rintro ⟨h1,h2,h3⟩
    refine ⟨h2,ops[i],Array.getElem?_eq_getElem h1,fun e he hb=>h3 _ ?_⟩
    simp only [QaL,Array.getElem?_eq_getElem h1,List.mem_map,List.mem_filter]
    exact ⟨e,⟨by simpa using he,hb⟩,rfl⟩
theorem ClosedL.set {L:Array Bool} (hc:ClosedL ops L) {i:Nat} (hi:i < L.size) (hp:∀ j ∈ QaL ops i,L.getD j false = true):ClosedL ops (L.setIfInBounds i true):=fun m hm j hj=>by
  by_cases e:i = m
  · subst e
    exact getD_set_true (hp j hj)
  · rw [getD_set_ne false e] at hm
    exact getD_set_true (hc m hm j hj)
theorem Qpg {L:Array Bool} {n:Nat} (hback:∀ i,i < ops.size->∀ j ∈ QaL ops i,j < i) (hs:L.size = ops.size) (hn:n<=ops.size) (h:∀ i,i < n->i ∉ Region.ready .any ops L):∀ i,i < n->L.getD i false = true:=by
  intro i
  induction i using Nat.strongRecOn with
  | _ i ih =>
    intro hlt
    cases hl:L.getD i false with
    | true=>rfl
    | false =>
      refine absurd (mem_ready'.2 ⟨by omega,?_,fun j hj=>?_⟩) (h i hlt)
      · have:i < L.size:=by omega
        simpa [this] using hl
      · have:=hback i (by omega) j hj
        exact ih j this (by omega)
theorem QlU {k i:Nat} (hi:i < k):((ops.toList.take k).toArray)[i]? = ops[i]?:=by
  simp [hi]
theorem QrC {k i:Nat} (hi:i < k):QaL (ops.toList.take k).toArray i = QaL ops i:=by unfold QaL; rw [QlU hi]
theorem Qmz {o:Oper} {a:Act} {w:World} {K K':Act->World->Prop} {Q Q':Exit->Act->World->Prop} (h:∀ a w,K a w->K' a w) (hq:∀ e a w,e ≠ .normal->Q e a w->Q' e a w) (hh:o.wp P a w K Q):o.wp P a w K' Q':=by
  unfold Oper.wp at *
  generalize (execOp a.eval o).run P w = r at *
  cases r with
  | ok n w' =>
    cases n<;>simp only [Oper.upon] at hh |- <;>
      first
        | exact h _ _ hh
        | exact Calls.mono hh (fun e w'' he=>by cases e<;>first | exact h _ _ he | exact hq _ _ _ (by simp) he | exact (let ⟨a1,w1,h1⟩:=(he:LetsOut Q); (⟨a1,w1,hq _ _ _ (by simp) h1⟩:LetsOut Q')))
        | exact Rows.mono hh (fun _ _ he=>h _ _ he)
  | halt x w'=>cases x<;>simp only [Oper.upon] at hh |-<;>first | exact hq _ _ _ (by simp) hh | exact hh
theorem QhL {Q:Exit->Act->World->Prop}:∀ (n:Nat) (L:Array Bool) (a:Act) (w:World),wpAny P .any ops Q n L a w->wpAny P .any ops Q (n + 1) L a w
  | 0,L,a,w,h=>⟨fun _=>h.2,fun i hi=>by rw [h.1] at hi; (cases hi)⟩
  | n + 1,L,a,w,h=>⟨h.1,fun i hi=>wpOp_mono (fun a w=>QhL n _ a w) (h.2 i hi)⟩
theorem QhM {Q:Exit->Act->World->Prop} {n:Nat} {L:Array Bool} {a:Act} {w:World} (h:wpAny P .any ops Q n L a w):∀ m,wpAny P .any ops Q (m + n) L a w
  | 0=>by rw [Nat.zero_add]; exact h
  | m + 1=>by rw [show m + 1 + n = (m + n) + 1 by omega]; exact QhL _ _ _ _ (QhM h m)
theorem QAb {k f m:Nat} (sp:SplitOk ops k f)         (hg:∀ i,i < k->∀ o,ops[i]? = some o->o.guard = none\/∃ j b,o.guard = some (j,b)/\j < k) {Q Q1:Exit->Act->World->Prop} (hq1:∀ e a w,Q1 e a w->e = .normal)
    (hN:∀ (L:Array Bool),L.size = ops.size->(∀ i,L.getD i false = decide (i < k))->∀ a w,Q1 .normal a w->wpOp P ops Q k (wpAny P .any ops Q m (L.setIfInBounds k true)) a w) :
    ∀ (fuel:Nat) (L L1:Array Bool) (a:Act) (w:World),L.size = ops.size->L1.size = k->(∀ i,i < k->L1.getD i false = L.getD i false)->ClosedL ops L->(∀ i,k<=i->L.getD i false = false) ->
      wpAny P .any (ops.toList.take k).toArray Q1 fuel L1 a w->wpAny P .any ops Q (fuel + (m + 1)) L a w:=by
  have hsz:(ops.toList.take k).toArray.size = k:=by have:=sp.lt; simp; omega
  have rd:∀ (L L1:Array Bool),L.size = ops.size      -> L1.size = k->(∀ i,i < k->L1.getD i false = L.getD i false)->∀ i,i < k->(i ∈ Region.ready .any (ops.toList.take k).toArray L1 ↔ i ∈ Region.ready .any ops L):=by
    intro L L1 h1 h2 h3 i hi
    have hlt:i < ops.size:=Nat.lt_trans hi sp.lt
    rw [mem_ready',mem_ready',hsz,QrC hi]
    have e1:L1.getD i true = L1.getD i false:=by     have:i < L1.size:=by omega
                                                     simp [this]
    have e2:L.getD i true = L.getD i false:=by     have:i < L.size:=by omega
                                                   simp [this]
    rw [e1,e2,h3 i hi]
    constructor
    · rintro ⟨_,a,b⟩; exact ⟨hlt,a,fun j hj=>by rw [<- h3 j (Nat.lt_trans (sp.back i hlt j hj) hi)]; exact b j hj⟩
    · rintro ⟨_,a,b⟩; exact ⟨hi,a,fun j hj=>by rw [h3 j (Nat.lt_trans (sp.back i hlt j hj) hi)]; exact b j hj⟩
  have fin:∀ (x:Nat) (L L1:Array Bool) (a:Act) (w:World),L.size = ops.size->L1.size = k->(∀ i,i < k->L1.getD i false = L.getD i false)->ClosedL ops L->(∀ i,k<=i->L.getD i false = false) ->
      Region.ready .any (ops.toList.take k).toArray L1 = []->Q1 .normal a w->(∀ i,i < ops.size->i ∈ Region.ready .any ops L->i = k)/\k ∈ Region.ready .any ops L/\wpOp P ops Q k (wpAny P .any ops Q m (L.setIfInBounds k true)) a w:=by
    intro x L L1 a w h1 h2 h3 h4 h5 h6 h7
    have hall:∀ i,i < k->L.getD i false = true:=Qpg (n:=k) sp.back h1 (Nat.le_of_lt sp.lt) fun i hi hm=>by
      have:=(rd L L1 h1 h2 h3 i hi).2 hm
      rw [h6] at this
      cases this
    have hL:∀ i,L.getD i false = decide (i < k):=fun i=>by
      by_cases hi:i < k
      · rw [hall i hi,decide_eq_true hi]
      · rw [h5 i (by omega),decide_eq_false hi]
    have hk:k ∈ Region.ready .any ops L:=by
      have hks:k < L.size:=by rw [h1]; exact sp.lt
      refine mem_ready'.2 ⟨sp.lt,?_,fun j hj=>hall j (sp.back k sp.lt j hj)⟩
      have h':=h5 k (Nat.le_refl _)
      simpa [hks] using h'
    refine ⟨fun i hi hm=>?_,hk,hN L h1 hL a w h7⟩
    obtain ⟨r1,r2,r3⟩:=mem_ready'.1 hm
    have hi':i < L.size:=by omega
    have hu:L.getD i false = false:=by simpa [hi'] using r2
    rw [hL] at hu
    by_cases hik:i = k
    · exact hik
    · have hki:k < i:=by
        have:¬ i < k:=by simpa using hu
        omega
      have:=Qdr h4 f i r3 k (sp.post i hki hi).1
      rw [hL] at this
      simp at this
  have step:∀ (n:Nat) (L L1:Array Bool) (a:Act) (w:World),n = m->L.size = ops.size->L1.size = k->(∀ i,i < k->L1.getD i false = L.getD i false)->ClosedL ops L->(∀ i,k<=i->L.getD i false = false) ->
      Region.ready .any (ops.toList.take k).toArray L1 = []->Q1 .normal a w->wpAny P .any ops Q (n + 1) L a w:=by
    intro n L L1 a w e h1 h2 h3 h4 h5 h6 h7
    subst e
    obtain ⟨g1,g2,g3⟩:=fin 0 L L1 a w h1 h2 h3 h4 h5 h6 h7
    refine ⟨fun h=>by rw [h] at g2; (cases g2),fun i hi=>?_⟩
    have:=g1 i (mem_ready'.1 hi).1 hi
    subst this
    exact g3
  intro fuel
  induction fuel with
  | zero =>
    intro L L1 a w h1 h2 h3 h4 h5 h
    rw [Nat.zero_add]
    exact step m L L1 a w rfl h1 h2 h3 h4 h5 h.1 h.2
  | succ fuel ih =>
    intro L L1 a w h1 h2 h3 h4 h5 h
    by_cases hr:Region.ready .any (ops.toList.take k).toArray L1 = []
    · exact QhM (step m L L1 a w rfl h1 h2 h3 h4 h5 hr (h.1 hr)) (fuel + 1)
    · obtain ⟨j,hj⟩:=List.exists_mem_of_ne_nil _ hr
      have hjk:j < k:=by have:=(mem_ready'.1 hj).1; rw [hsz] at this; exact this
      have hju:L.getD j false = false:=by
        have hj1:j < L1.size:=by omega
        have:=(mem_ready'.1 hj).2.1
        rw [<- h3 j hjk]
        simpa [hj1] using this
      rw [show fuel + 1 + (m + 1) = (fuel + (m + 1)) + 1 by omega]
      refine ⟨fun hn=>?_,fun i hi=>?_⟩
      · have:=(rd L L1 h1 h2 h3 j hjk).1 hj
        rw [hn] at this
        cases this
      · obtain ⟨r1,r2,r3⟩:=mem_ready'.1 hi
        have hik:i < k:=by
          by_cases hlt:i < k
          · exact hlt
          · exfalso
            by_cases he:i = k
            · subst he
              have:=Qdr h4 f i r3 j (sp.pre j hjk)
              rw [hju] at this
              cases this
            · have:=Qdr h4 f i r3 k (sp.post i (by omega) r1).1
              rw [h5 k (Nat.le_refl _)] at this
              cases this
        have hi1:=h.2 i ((rd L L1 h1 h2 h3 i hik).2 hi)
        have ho:ops[i]? = some ops[i]:=Array.getElem?_eq_getElem r1
        have hiL:i < L.size:=by omega
        have hiL1:i < L1.size:=by omega
        unfold wpOp at hi1 |-
        rw [QlU hik,ho] at hi1
        rw [ho]
        dsimp only at hi1 |-
        have hw:Region.wanted ops[i] (yielded (ops.toList.take k).toArray a.tmps) = Region.wanted ops[i] (yielded ops a.tmps):=by
          unfold Region.wanted
          rcases hg i hik _ ho with e | ⟨j',b,e,hj'⟩
          · rw [e]
          · rw [e]; simp only [yielded,QlU hj']
        rw [hw] at hi1
        have go:∀ a w,wpAny P .any (ops.toList.take k).toArray Q1 fuel (L1.setIfInBounds i true) a w->wpAny P .any ops Q (fuel + (m + 1)) (L.setIfInBounds i true) a w:=fun a w hh=>
          ih (L.setIfInBounds i true) (L1.setIfInBounds i true) a w (by simpa using h1) (by simpa using h2) (fun x hx=>by
            by_cases e:i = x
            · subst e; simp [hiL,hiL1]
            · rw [getD_set_ne false e,getD_set_ne false e]; exact h3 x hx) (h4.set hiL r3) (fun x hx=>by rw [getD_set_ne false (by omega)]; exact h5 x hx) hh
        split at hi1
        · rename_i hww
          rw [if_pos hww]
          rcases hi1 with hi1 | ⟨e1,a1,w1,e2⟩
          · exact .inl (Qmz go (fun e a w hne hq=>absurd (hq1 e a w hq) hne) hi1)
          · exact absurd (hq1 _ _ _ e2) (by simp)
        · rename_i hww
          rw [if_neg hww]
          exact go _ _ hi1
def Qn3:Oper:={ dst:=none,op:=.move (.const (.bool true)),type:=0,pos := "", after:=#[],guard:=none }
def Qas (ops:Array Oper) (k:Nat):Array Oper:=(List.replicate (k + 1) Qn3 ++ ops.toList.drop (k + 1)).toArray
theorem Qg4 {k:Nat} (h:k < ops.size):(Qas ops k).size = ops.size:=by simp [Qas]; omega
theorem Qg5 {k i:Nat} (h:k < i):(Qas ops k)[i]? = ops[i]?:=by
  simp only [Qas,List.getElem?_toArray]
  rw [List.getElem?_append_right (by simp; omega),List.getElem?_drop,<- Array.getElem?_toList]
  congr 1
  rw [List.length_replicate]
  omega
theorem Qig {k i:Nat} (h:i<=k):(Qas ops k)[i]? = some Qn3:=by
  simp only [Qas,List.getElem?_toArray]
  rw [List.getElem?_append_left (by simp; omega),List.getElem?_replicate,if_pos (by omega)]
theorem Qpe {k f:Nat} (sp:SplitOk ops k f) {Q:Exit->Act->World->Prop}:∀ (fuel:Nat) (L:Array Bool) (a:Act) (w:World),L.size = ops.size->(∀ i,i<=k->L.getD i false = true)->wpAny P .any (Qas ops k) Q fuel L a w->wpAny P .any ops Q fuel L a w:=by
  have rd:∀ (L:Array Bool),L.size = ops.size->(∀ i,i<=k->L.getD i false = true)->Region.ready .any (Qas ops k) L = Region.ready .any ops L:=by
    intro L hL h
    unfold Region.ready
    rw [Qg4 sp.lt]
    refine List.filter_congr fun i hi=>?_
    by_cases hik:i<=k
    · have hiL:i < L.size:=by rw [hL]; exact List.mem_range.1 hi
      have:=h i hik
      have e:L.getD i true = true:=by simpa [hiL] using this
      simp [e]
    · rw [Qg5 (by omega)]
  intro fuel
  induction fuel with
  | zero=>intro L a w h1 h2 h; exact ⟨by rw [<- rd L h1 h2]; exact h.1,h.2⟩
  | succ fuel ih =>
    intro L a w h1 h2 h
    have e:=rd L h1 h2
    refine ⟨fun hr=>h.1 (by rw [e]; exact hr),fun i hi=>?_⟩
    have hi1:=h.2 i (by rw [e]; exact hi)
    obtain ⟨r1,r2,r3⟩:=mem_ready'.1 hi
    have hik:k < i:=by
      by_cases hlt:k < i
      · exact hlt
      · have:=h2 i (by omega)
        have hiL:i < L.size:=by omega
        have hx:L.getD i true = true:=by simpa [hiL] using this
        rw [hx] at r2
        cases r2
    obtain ⟨-,o,ho,hg⟩:=sp.post i hik r1
    unfold wpOp at hi1 |-
    rw [Qg5 hik,ho] at hi1
    rw [ho]
    dsimp only at hi1 |-
    have hw:∀ y,Region.wanted o y = true:=fun y=>by simp [Region.wanted,hg]
    rw [hw,if_pos rfl] at hi1 |-
    have go:∀ a w,wpAny P .any (Qas ops k) Q fuel (L.setIfInBounds i true) a w->wpAny P .any ops Q fuel (L.setIfInBounds i true) a w:=fun a w hh=>
      ih _ a w (by simpa using h1) (fun x hx=>by rw [getD_set_ne false (by omega)]; exact h2 x hx) hh
    exact hi1.imp (fun hi1=>Qmz go (fun e a w _ hq=>hq) hi1) id
theorem QhS {all:List Oper} (S:St):Qla P all S Qn3 S ([],false):=by
  refine ⟨rfl,true,rfl,.inr (.inl ⟨.bool true,S.hp,rfl,rfl,rfl,rfl,rfl⟩)⟩
theorem Qk0 {L:Array Bool} {n k:Nat} (h:k < n) (hL:∀ i,i<=k->L.getD i false = true):(List.range n).countP (fun i=>!L.getD i false)<=n - k - 1:=by
  have e:List.range n = List.range (k + 1) ++ List.range' (k + 1) (n - k - 1):=by
    have e:=List.range'_append_1 (s:=0) (m:=k + 1) (n:=n - k - 1)
    rw [Nat.zero_add] at e
    rw [List.range_eq_range',List.range_eq_range',e]
    congr 1
    omega
  rw [e,List.countP_append]
  have h0:(List.range (k + 1)).countP (fun i=>!L.getD i false) = 0:=by
    rw [List.countP_eq_zero]
    intro i hi
    have:=hL i (by have:=List.mem_range.1 hi; omega)
    simp only [this]
    decide
  have h1:=List.countP_le_length (p:=fun i=>!L.getD i false) (l:=List.range' (k + 1) (n - k - 1))
  simp only [List.length_range'] at h1
  omega
theorem QAa {k f:Nat} (sp:SplitOk ops k f) (hB:Qdw (Qas ops k) = true) {K:St->Prop} {Q:Exit->Act->World->Prop} {O:Org} (hK:∀ β S a w,Sim O β S a w->K S->Q .normal a w) {S:St} (h:vdr P (Qas ops k).toList (ops.toList.drop (k + 1)) (List.replicate (k + 1) ([],false)) K S)
    {L:Array Bool} (hL:L.size = ops.size) (hLk:∀ i,L.getD i false = decide (i<=k)) {β:Map} {a:Act} {w:World} (hs:Sim O β S a w):wpAny P .any ops Q (ops.size - k - 1) L a w:=by
  obtain ⟨T,F,t1,t2,t3,t4⟩:=Qcy (ops.toList.drop (k + 1)) (List.replicate (k + 1) Qn3) (List.replicate (k + 1) ([],false)) S rfl (by simp) h
  simp only [List.length_replicate] at t2 t4
  have hF:∀ i,i<=k->F i = ([],false):=fun i hi=>t1 i _ (by rw [List.getElem?_replicate,if_pos (by omega)])
  have hsz:=Qg4 sp.lt
  have hlist:(Qas ops k).toList.length = ops.size:=by rw [<- hsz]; simp
  obtain ⟨T',hT'⟩:∃ T':Nat->St,T' = fun j=>if j<=k then S else T j:=⟨_,rfl⟩
  have e1:∀ j,j<=k->T' j = S:=fun j hj=>by rw [hT']; exact if_pos hj
  have e2:∀ j,k < j->T' j = T j:=fun j hj=>by rw [hT']; exact if_neg (by omega)
  have hsteps:Steps P (Qas ops k) T' F:=⟨fun j hj=>by
    by_cases hjk:j<=k
    · refine ⟨Qn3,Qig hjk,?_,fun i _ hc=>?_⟩
      · rw [e1 j hjk,hF j hjk]
        by_cases hj1:j + 1<=k
        · rw [e1 _ hj1]; exact QhS S
        · rw [e2 _ (by omega),show j + 1 = k + 1 by omega,t2]; exact QhS S
      · rw [hF j hjk] at hc
        obtain ⟨_,x,_,hx⟩:=hc
        simp at hx
    · obtain ⟨o,g1,g2,g3⟩:=t4 j (by omega) (by simp only [List.length_append,List.length_replicate,List.length_drop,Array.length_toList]; omega)
      refine ⟨o,by simp only [Qas,List.getElem?_toArray]; exact g1,?_,g3⟩
      rw [e2 j (by omega),e2 (j + 1) (by omega)]
      exact g2,hB⟩
  refine Qpe sp _ _ _ _ hL (fun i hi=>by rw [hLk,decide_eq_true hi]) ?_
  refine QbD (O:=O) hsteps (fun β a w hk=>hK β _ a w hk ?_) _ L a w β S ?_ hs ?_
  · rw [hsz,e2 _ sp.lt,<- hlist]
    exact t3
  · rw [hsz]
    exact Qk0 sp.lt fun i hi=>by rw [hLk,decide_eq_true hi]
  · have k1:T' (k + 1) = S:=by rw [e2 _ (by omega),t2]
    have k0:T' 0 = S:=e1 0 (Nat.zero_le _)
    refine ⟨hL.trans hsz.symm,by rw [k0],by rw [k0],by rw [k0],fun i o ho hl e he=>?_,fun t=>⟨k + 1,by rw [hsz]; exact sp.lt,by rw [k1],fun i hi _=>by rw [hLk,decide_eq_true (by omega)],fun i hi _=>by rw [hLk,decide_eq_false (by omega)]⟩,
      fun t=>⟨k + 1,by rw [hsz]; exact sp.lt,by rw [k1],fun i hi _=>by rw [hLk,decide_eq_true (by omega)],fun i hi _ _=>by rw [hLk,decide_eq_false (by omega)]⟩⟩
    rw [hLk] at hl
    rw [Qig (by simpa using hl)] at ho
    cases ho
    simp [Qn3] at he
def QCB (P:Program) (ops:Array Oper) (K:St->Prop) (S:St):Prop:=∀ (O:Org) (β:Map) (a:Act) (w:World),Sim O β S a w->wpAny P .any ops (Qkz O fun e S=>e = .normal/\K S) ops.size (Array.replicate ops.size false) a { w with drawn:=w.drawn + 1 }
theorem Qpf {K:St->Prop} {S:St} (H0:List Nat) (segs:List Seg) (hok:Qgh ops H0 segs = true) (h:Qag P ops.toList (pick ops.toList H0) (vsp P ops.toList segs K) S):QCB P ops K S:=fun _ _ _ _ hs=>
  QeD (Q:=fun e S=>e = .normal/\K S) H0 segs hok (by simpa using h) hs
theorem QfW {K:St->Prop} {S:St} (hB:Qdw ops = true) (h:vdr P ops.toList ops.toList [] K S):QCB P ops K S:=by
  intro O β a w hs
  obtain ⟨T,F,_,h2,h3,h4⟩:=Qcy ops.toList [] [] S rfl rfl h
  simp only [List.length_nil] at h2
  have hsteps:Steps P ops T F:=⟨fun j hj=>by
    obtain ⟨o,e1,e2,e3⟩:=h4 j (Nat.zero_le _) (by simpa using hj)
    exact ⟨o,by simpa using e1,e2,e3⟩,hB⟩
  have hs':Sim O β (T 0) a { w with drawn:=w.drawn + 1 }:=by
    rw [h2]
    have e:Evo w β S.hp w.drew β S.hp:=Qa5 w β S.hp
    exact ⟨hs.defers,hs.size,fun t=>(hs.tm t).mono e,hs.heap.drew,hs.evo.trans e,hs.base⟩
  refine QbD (O:=O) hsteps (fun β a w hk=>⟨β,_,hk,rfl,by simpa using h3⟩) ops.size (Array.replicate ops.size false) a _ β (T 0) ?_ hs' ?_
  · have:=List.countP_le_length (p:=fun i=>!(Array.replicate ops.size false).getD i false) (l:=List.range ops.size)
    simpa using this
  · have hfalse:∀ i,(Array.replicate ops.size false).getD i false = false:=fun i=>by
      by_cases hi:i < ops.size
      · simp [hi]
      · simp [hi]
    refine ⟨by simp,rfl,rfl,rfl,fun i o _ hl=>?_,fun t=>⟨0,Nat.zero_le _,rfl,fun i hi=>absurd hi (Nat.not_lt_zero _),fun i _ _=>hfalse i⟩,fun k=>⟨0,Nat.zero_le _,rfl,fun i hi=>absurd hi (Nat.not_lt_zero _),fun i _ _ _=>hfalse i⟩⟩
    rw [hfalse] at hl
    cases hl
def QvL (ops:Array Oper) (k:Nat):Bool:=(List.range k).all fun i=>match ops[i]? with
  | some o=>(match o.guard with | none=>true | some (j,_)=>decide (j < k))
  | none=>true
def QCJ (P:Program) (ops:Array Oper) (k:Nat) (K:St->Prop) (S:St):Prop:=vdr P (Qas ops k).toList (ops.toList.drop (k + 1)) (List.replicate (k + 1) ([],false)) K S
theorem VWpG.drawn (hΓ:∀ g,Stable (Γ g)) {id k f:Nat} {o:Oper} {Q:Exit->St->γ->Prop} {S:St} {g:γ} (hm:P.follows .mixedOrders = true) (hs:QlF ops k f = true) (hgd:QvL ops k = true) (hB:Qdw (Qas ops k) = true) (hk':ops.toList[k]? = some o)
    (h:QCB P (ops.toList.take k).toArray (fun S1=>QA ops.toList S1 o = some true /\
      Qlc P Γ o (fun S2 g2=>QCJ P ops k (fun S3=>Q .normal S3 g2) S2.reb) S1 g) S.reb):VWpG P Γ (.region id ops true) Q S g:=fun O β a w hw=>by
  have sp:=QjT hs
  have hk:ops[k]? = some o:=by simpa using hk'
  have hg:∀ i,i < k->∀ o,ops[i]? = some o->o.guard = none\/∃ j b,o.guard = some (j,b)/\j < k:=fun i hi o ho=>by
    have:=List.all_eq_true.1 hgd i (List.mem_range.2 hi)
    rw [ho] at this
    dsimp only at this
    cases hgo:o.guard with
    | none=>exact .inl rfl
    | some jb=>obtain ⟨j,b⟩:=jb; rw [hgo] at this; exact .inr ⟨j,b,rfl,by simpa using this⟩
  have hsz:(ops.toList.take k).toArray.size = k:=by have:=sp.lt; simp; omega
  refine wp_region_any hm ?_
  have h1:=h _ _ _ _ hw.reb
  rw [hsz] at h1
  have e:ops.size = k + ((ops.size - k - 1) + 1):=by have:=sp.lt; omega
  have hfalse:∀ n i,(Array.replicate n false).getD i false = false:=fun n i=>by
    by_cases hi:i < n<;>simp [hi]
  have key:=QAb (P:=P) (Q:=QrX Γ O Q) (m:=ops.size - k - 1) sp hg (fun e a w hq=>by obtain ⟨_,_,_,hq,_⟩:=hq; exact hq) (fun L hL hLk a1 w1 hq=>?_) k (Array.replicate ops.size false) (Array.replicate k false) a { w with drawn:=w.drawn + 1 } (by simp) (by simp) (fun i hi=>by rw [hfalse,hfalse]) (fun i hi=>by rw [hfalse] at hi; cases hi) (fun i _=>hfalse _ i) h1
  · rw [<- e] at key
    exact key
  · obtain ⟨β1,S1,hs1,-,hg1,hd⟩:=hq
    have hw1:=hw.on (hΓ g) hs1
    unfold wpOp
    rw [hk]
    dsimp only
    rw [QfY hw1 hg1,if_pos rfl]
    refine .inl ?_
    obtain ⟨v,w',hrun,β',S',g',h2,h3⟩:=hd O β1 a1 w1 hw1
    have nxt:wpAny P .any ops (QrX Γ O Q) (ops.size - k - 1) (L.setIfInBounds k true) (a1.put o.dst v) w':=by
      refine QAa (O:=⟨w',β',S'.hp,(a1.put o.dst v).defers⟩) sp hB (K:=fun S3=>Q .normal S3 g') (fun β3 S3 a3 w3 hs3 hq3=>⟨β3,S3,g',h2.on (hΓ g') hs3,hq3⟩) h3 (by simpa using hL) (fun i=>?_) h2.reb
      by_cases hik:k = i
      · subst hik
        have:k < L.size:=by rw [hL]; exact sp.lt
        simp [this]
      · rw [getD_set_ne false hik,hLk]
        congr 1
        exact propext ⟨fun h=>Nat.le_of_lt h,fun h=>by omega⟩
    unfold Oper.wp
    rcases hrun with hrun | ⟨hrun,rfl⟩
    · rw [hrun]; exact nxt
    · rw [hrun]; exact nxt
end Go.V
namespace Go.V
variable {P:Program}
structure VCallsG (P:Program) (g:FuncId) (args:List DV) (h:Qa) (gh:MapsD) (R:DV->Qa->MapsD->Prop):Prop where
  fn:∃ fn,P.funcs[g]? = some fn/\(fn.name == "runtime.NumGoroutine") = false/\fn.body.isNone = false
  run:∀ (O:Org) (w:World) (β:Map) (vs:Array Value),Evo O.w O.β O.hp w β h->HeapRel w β h->RelL w β h args vs->Qxf gh O.w w β h ->
    Calls P g vs w fun e w'=>∃ v r h' β' gh',e = .returned v/\Evo O.w O.β O.hp w' β' h'/\HeapRel w' β' h'/\RelD w' β' h' r v/\MapsD.At (w,β,h) gh' O.w w' β' h'/\R r h' gh'
theorem VCallsG.mono {g:FuncId} {args:List DV} {h:Qa} {gh:MapsD} {R R':DV->Qa->MapsD->Prop} (c:VCallsG P g args h gh R) (hr:∀ r h' gh',R r h' gh'->R' r h' gh'):VCallsG P g args h gh R':=
  ⟨c.fn,fun O w β vs a1 a2 a3 a4=>(c.run O w β vs a1 a2 a3 a4).mono fun _ _ ⟨v,r,h',β',gh',k1,k2,k3,k4,k5,k6⟩=>⟨v,r,h',β',gh',k1,k2,k3,k4,k5,hr _ _ _ k6⟩⟩
theorem QiV {ops:Array Oper} {c:Qpl} {o:Oper} {K:St->MapsD->Prop} {S:St} {g:MapsD} {f:FuncId} {args:List DV} {R:DV->Qa->MapsD->Prop} (hG:QA ops.toList S o = some true) (hf:S.fits o.dst = true) (hc:Ql (fun x=>Qm true (S.ev x)) o.op = some (f,args))
    (hcalls:VCallsG P f args S.hp g R) (hK:∀ r h' g',R r h' g'->K ((S.at h').put o.dst (Qcn o.guard true r)) g'):OpG P (Qcm c) ops o K S g:=fun n Q next O β a w hs hn=>by
  rw [QfY hs hG,if_pos rfl]
  have hnd:=Qdu hc
  have hev:∀ x,RelD w β S.hp (Qm true (S.ev x)) (a.eval x):=Qw8 hs
  unfold Ql at hc
  split at hc
  · rename_i cl hop
    split at hc
    · rename_i fo hcal
      split at hc
      · rename_i g' first cap hfn
        simp at hc
        obtain ⟨rfl,rfl⟩:=hc
        have hf':RelD w β S.hp ((fun x=>Qm true (S.ev x)) fo) (a.eval fo):=hev fo
        rw [hfn] at hf'
        generalize hv:a.eval fo = fv at hf'
        cases hf' with
        | fn _ _ _ vs us l1 l2 r1 r2 =>
          have hrel:RelL w β S.hp (first ++ cl.args.toList.map (fun x=>Qm true (S.ev x)) ++ cap) (vs ++ cl.args.map a.eval ++ us):=QaW (QaW ⟨l1,r1⟩ (Qed hev cl.args)) ⟨l2,r2⟩
          obtain ⟨fn,h1,h2,h3⟩:=hcalls.fn
          have h4:=hcalls.run O w β (vs ++ cl.args.map a.eval ++ us) hs.evo hs.heap (by simpa using hrel) hs.g.1
          have hrun:(execOp a.eval o).run P w = .ok (.enter g' (vs ++ cl.args.map a.eval ++ us)) w:=by
            simp [execOp,hop,resolve,hcal,hv,Deferred.ofValue,invoke,Qbb h1 h2 h3]
          refine ⟨fun _ _=>trivial,?_⟩
          rw [Oper.semAt_plain _ _ _ hnd,hrun,Oper.uponIn_enter]
          refine ⟨fun h=>by simp [Fence.wide] at h,CallsIn.mono (F:=wd none) (callsIn_wide.2 h4) ?_⟩
          rintro e w' ⟨v,r,h',β',gh',rfl,k1,k2,k3,k4,k5⟩
          refine hn β' _ gh' _ w' ?_ (hK r h' gh' k5)
          refine ⟨by rw [Qbo]; exact hs.defers,by rw [Qcd,St.put_nt]; exact hs.size,fun t=>?_,by rw [St.put_hp]; exact k2,by rw [St.put_hp]; exact k1,by rw [St.put_hp]; exact ⟨k4.1,hs.g.2.trans k4.2⟩⟩
          rw [St.put_hp]
          have hd:=Qaq (g:=o.guard) k3
          cases hdst:o.dst with
          | none=>exact (hs.tm t).monoC k4.2
          | some t0 =>
            have hlt:t0 < a.tmps.size:=by rw [hs.size]; rw [hdst] at hf; simpa [St.fits] using hf
            simp only [St.put,look,Act.put,St.at]
            split
            · rename_i e
              subst e
              simpa [Array.getD_eq_getD_getElem?,hlt] using hd
            · rename_i e
              have:=(hs.tm t).monoC k4.2
              simpa [Array.getD_eq_getD_getElem?,Array.getElem?_setIfInBounds,e] using this
      · simp at hc
    · simp at hc
  · simp at hc
def Qjt (P:Program) (rs:List ResultVar) (R:DV->Qa->MapsD->Prop) (e:Exit) (S:St) (g:MapsD):Prop :=
  match e with
  | .normal | .ret=>match QD P S rs with
    | some d=>R d S.hp g
    | none=>False
  | _=>False
theorem QnL {rs:List ResultVar} {R:DV->Qa->MapsD->Prop} {S:St} {g:MapsD}:Qjt P rs R .ret S g = Qap P rs (fun d h=>R d h g) .ret S:=by
  unfold Qjt Qap; cases QD P S rs<;>rfl
theorem QeH {g:FuncId} {args:List DV} {h:Qa} {gh:MapsD} {R:DV->Qa->MapsD->Prop} {fn:Func} {cd:Code} (hf:P.funcs[g]? = some fn) (hb:fn.body = some cd) (hname:(fn.name == "runtime.NumGoroutine") = false) (hn:args.length<=fn.ntmps)
    (hc:∀ c:Qpl,VWpG P (Qcm c) cd (Qjt P fn.results.toList R) ⟨fn.ntmps,h.length,QfV 0 args,h⟩ gh):VCallsG P g args h gh R:=by
  refine ⟨⟨fn,hf,hname,by rw [hb]; rfl⟩,fun O w β vs he hh ha hg=>?_⟩
  refine callsIn_wide.1 (callsIn_of_wp_marks (n:=1) hf hb trivial (wpIn_wide.2 ?_))
  have hsz:vs.size = args.length:=ha.1.symm
  have hs:SimG (Qcm (w,β,h) gh) ⟨O.w,O.β,O.hp,[]⟩ β ⟨fn.ntmps,h.length,QfV 0 args,h⟩ { tmps:=vs ++ Array.replicate (fn.ntmps - vs.size) undef,defers:=[] } w:=by
    refine ⟨rfl,by simp; omega,fun t=>?_,hh,he,hg,EvoC.refl w β h⟩
    rw [QgG,if_pos (Nat.zero_le _),Nat.sub_zero]
    cases ht:args[t]? with
    | none=>exact .any _
    | some d =>
      have hlt:t < vs.size:=by rw [hsz]; exact (List.getElem?_eq_some_iff.1 ht).1
      have e:(vs ++ Array.replicate (fn.ntmps - vs.size) undef).getD t undef = vs.getD t undef:=by
        simp only [Array.getD_eq_getD_getElem?]; rw [Array.getElem?_append_left hlt]
      show RelD w β h d ((vs ++ Array.replicate (fn.ntmps - vs.size) undef).getD t undef)
      rw [e]
      exact ha.2 t d ht
  refine wp_mono (hc (w,β,h) _ β _ w hs) fun e a' w' hq=>?_
  obtain ⟨β',S',g',hs',hq⟩:=hq
  have key:(∃ d,QD P S' fn.results.toList = some d/\R d S'.hp g')->LeavesInM Fence.wide 1 P fn a'.tmps (fun e w'=>∃ v r h' β' gh',e = .returned v/\Evo O.w O.β O.hp w' β' h'/\HeapRel w' β' h'/\RelD w' β' h' r v/\MapsD.At (w,β,h) gh' O.w w' β' h'/\R r h' gh') a'.defers .returning w':=by
    rintro ⟨d,hr,hend⟩
    obtain ⟨v,r1,r2⟩:=QbF (P:=P) (fn:=fn) (d:=d) hs'.reb (by
      have e:Qjk P S'.reb = Qjk P S':=by funext r; cases r<;>rfl
      unfold QD at hr |-
      rw [e]; exact hr)
    have hd0:a'.defers = []:=hs'.defers
    rw [hd0]
    exact ⟨v,r1,v,d,S'.hp,β',g',rfl,hs'.evo,hs'.heap,r2,hs'.g,hend⟩
  unfold Qjt at hq
  cases e with
  | normal =>
    dsimp only at hq
    split at hq
    · rename_i d hd; exact key ⟨d,hd,hq⟩
    · exact hq.elim
  | ret =>
    dsimp only at hq
    split at hq
    · rename_i d hd; exact key ⟨d,hd,hq⟩
    · exact hq.elim
  | _=>exact hq.elim
theorem QdC {g:FuncId} {args:List DV} {h:Qa} {R:DV->Qa->Prop} {fn:Func} {cd:Code} (hf:P.funcs[g]? = some fn) (hb:fn.body = some cd) (hname:(fn.name == "runtime.NumGoroutine") = false) (hn:args.length<=fn.ntmps)
    (hc:∀ c:Qpl,VWpG P (Qcm c) cd (fun e S _=>Qcv P fn.results.toList h.length R e S) ⟨fn.ntmps,h.length,QfV 0 args,h⟩ []):VCalls P g args h R:=
  Qf6 hf hb hname hn fun O β a w hs hd=>wp_mono (hc (w,β,h) O β a w ⟨hd,hs.size,hs.tm,hs.heap,hs.evo,⟨by simp,by simp⟩,EvoC.refl w β h⟩) fun _ _ _ ⟨β',S',_,h',q⟩=>⟨β',S',⟨h'.size,h'.tm,h'.heap,h'.evo,.inl h'.defers⟩,q⟩
theorem WeakG.slots {γ:Type} {Γ:γ->World->World->Map->Qa->Prop} {S S':St} {g:γ} (hn:S.nt = S'.nt) (hh:S.hp = S'.hp) (ht:∀ p ∈ S'.tm,look S.tm p.1 = p.2\/p.2 = .any):WeakG Γ S g S' g:=fun O β a w hs=>by
  refine ⟨β,hs.defers,by rw [<- hn]; exact hs.size,fun t=>?_,by rw [<- hh]; exact hs.heap,by rw [<- hh]; exact hs.evo,by rw [<- hh]; exact hs.g⟩
  have key:∀ (l:List (Nat × DV)),(∀ p ∈ l,look S.tm p.1 = p.2\/p.2 = .any)->RelD w β S.hp (look l t) (a.tmps.getD t undef):=by
    intro l
    induction l with
    | nil=>intro _; exact .any _
    | cons p r ih =>
      intro h
      simp only [look]
      split
      · rename_i e
        subst e
        rcases h p (by simp) with h | h
        · rw [<- h]; exact hs.tm _
        · rw [h]; exact .any _
      · exact ih fun q hq=>h q (List.mem_cons_of_mem _ hq)
  rw [<- hh]
  exact key _ ht
theorem Qbe {hp r:Qa} {k:Nat} (h:k < hp.length):Qf (hp ++ r) k = Qf hp k:=by unfold Qf; rw [List.getElem?_append_left h]
theorem Qmq {hp r:Qa} {k:Nat} (h:hp.length<=k):Qf (hp ++ r) k = Qf r (k - hp.length):=by unfold Qf; rw [List.getElem?_append_right h]
theorem Qwj {hp r:Qa}:Qf (hp ++ r) hp.length = Qf r 0:=by rw [Qmq (Nat.le_refl _),Nat.sub_self]
theorem Qn8 {hp:Qa} {k:Nat} {cs:List DV}:(Qp hp k cs).length = hp.length:=by unfold Qp; split<;>simp
theorem Qn9 {hp r:Qa} {k:Nat} {cs:List DV} (h:k < hp.length):Qp (hp ++ r) k cs = Qp hp k cs ++ r:=by
  unfold Qp
  rw [List.getElem?_append_left h]
  cases hp[k]? with
  | some B=>exact List.set_append_left _ _ h
  | none=>rfl
theorem Qn7 {hp r:Qa} {k:Nat} {cs:List DV} (h:hp.length<=k):Qp (hp ++ r) k cs = hp ++ Qp r (k - hp.length) cs:=by
  unfold Qp
  rw [List.getElem?_append_right h]
  cases r[k - hp.length]? with
  | some B=>exact List.set_append_right _ _ h
  | none=>rfl
theorem QvB {hp:Qa} {k:Nat}:(kill hp k).length = hp.length:=QI hp k
theorem Qme {hp:Qa} {j k:Nat} (h:j ≠ k):(kill hp j)[k]? = hp[k]?:=by
  unfold kill
  split
  · rw [List.getElem?_set_ne h]
  · rfl
theorem QoI {hp:Qa} {j k:Nat} {cs:List DV} (h:j ≠ k):(Qp hp j cs)[k]? = hp[k]?:=by
  unfold Qp
  split
  · rw [List.getElem?_set_ne h]
  · rfl
theorem QvM {hp r:Qa} {k:Nat} (h:k < hp.length):(hp ++ r)[k]? = hp[k]?:=List.getElem?_append_left h
theorem Qmd {hp r:Qa} {k:Nat} (h:hp.length<=k):(hp ++ r)[k]? = r[k - hp.length]?:=List.getElem?_append_right h
theorem Qvs {hp r:Qa} {k:Nat} {B:Blk} (h:k < hp.length):List.set (hp ++ r) k B = List.set hp k B ++ r:=List.set_append_left _ _ h
theorem Qvr {hp:Qa} {k:Nat} {B:Blk}:(List.set hp k B).length = hp.length:=List.length_set
end Go.V
namespace Go.V
open Go
variable {α:Type} (e:Enc α)
theorem QDO (l:List α) (i j:Nat) (t:α) (p:PV) (hi:i < l.length) (hj:j < e.sz) (h:e.enc t = (e.enc l[i]).set j p):(cells e l).set (i * e.sz + j) (.pv p) = cells e (l.set i t):=by
  have h1:cells e l = cells e (l.take i) ++ ((e.enc l[i]).map DV.pv ++ cells e (l.drop (i + 1))):=by
    conv=>lhs; rw [<- List.take_append_drop i l,List.drop_eq_getElem_cons hi,QE,QG]
  have h2:cells e (l.set i t) = cells e (l.take i) ++ ((e.enc t).map DV.pv ++ cells e (l.drop (i + 1))):=by
    rw [List.set_eq_take_append_cons_drop,if_pos hi,QE,QG]
  have hl:(cells e (l.take i)).length = i * e.sz:=by rw [QS,List.length_take,Nat.min_eq_left (by omega)]
  rw [h1,h2,List.set_append_right (i * e.sz + j) (DV.pv p) (by omega),hl,Nat.add_sub_cancel_left,List.set_append_left j (DV.pv p) (by rw [List.length_map,e.hlen]; exact hj),h,List.map_set]
end Go.V
namespace Go.V
open Go
theorem rn {A P Q:Prop} (a:A) (q:Q) (h:A->P = Q:=by intro f1; (try simp (maxSteps:=2000000) (implicitDefEqProofs:=false) (disch:=first | omega | assumption | (simp only [List.length_cons,List.length_nil,Nat.zero_add,Nat.reduceAdd]; done) | (simp only [IntKind.wrap_i64]; omega) | (simp only [List.length_replicate,List.length_set,List.length_append,List.length_cons,List.length_nil,List.length_take,List.length_drop,List.length_map]<;>omega) | fail) only [go_sem,V.splice,V.mk,mkI,mkB,mkU,↓reduceIte,reduceCtorEq,Nat.reduceAdd,Nat.reduceLT,Nat.reduceLeDiff,Nat.reduceEqDiff,Nat.reduceMul,Nat.reduceSub,Nat.reduceBEq,Nat.reduceDiv,Nat.reducePow,Int.reduceToNat,Int.reduceLT,Int.reduceLE,Int.reduceNeg,Int.reduceAdd,Int.reduceSub,Int.reduceMul,Int.reduceEq,Int.reduceBEq,Int.reduceBNe,f1]); exact rfl):P:=(h a).mpr q
theorem rd {A P:Prop} (a:A) (h:A->P:=by intro f1; first | (simp (maxSteps:=2000000) (implicitDefEqProofs:=false) (disch:=first | omega | assumption | (simp only [List.length_cons,List.length_nil,Nat.zero_add,Nat.reduceAdd]; done) | (simp only [IntKind.wrap_i64]; omega) | (simp only [List.length_replicate,List.length_set,List.length_append,List.length_cons,List.length_nil,List.length_take,List.length_drop,List.length_map]<;>omega) | fail) only [go_sem,V.splice,V.mk,mkI,mkB,mkU,↓reduceIte,reduceCtorEq,Nat.reduceAdd,Nat.reduceLT,Nat.reduceLeDiff,Nat.reduceEqDiff,Nat.reduceMul,Nat.reduceSub,Nat.reduceBEq,Nat.reduceDiv,Nat.reducePow,Int.reduceToNat,Int.reduceLT,Int.reduceLE,Int.reduceNeg,Int.reduceAdd,Int.reduceSub,Int.reduceMul,Int.reduceEq,Int.reduceBEq,Int.reduceBNe,f1]<;>fail "no") | fail "no"):P:=h a
theorem sG {A X Y Q1 Q2:Prop} {P:Program} {all:List Oper} {o:Oper} {r:List Oper} {K:St->Prop} {S:St} {G:Bool} (a:A) (q1:X->Q1) (q2:Y->Q2) (hx:(G = true) = X:=by (try simp only [decide_eq_true_eq,decide_eq_false_iff_not,Bool.or_eq_true,Bool.and_eq_true,Bool.or_eq_false_iff,Bool.and_eq_false_imp,Bool.not_eq_true',Bool.not_eq_false',beq_iff_eq,beq_eq_false_iff_ne,bne_iff_ne,bne_eq_false_iff_eq,ne_eq,Bool.not_eq_eq_eq_not,Bool.not_true,Bool.not_false,Int.not_lt,Int.not_le,Nat.not_lt,Nat.not_le]); exact rfl) (hy:(G = false) = Y:=by (try simp only [decide_eq_true_eq,decide_eq_false_iff_not,Bool.or_eq_true,Bool.and_eq_true,Bool.or_eq_false_iff,Bool.and_eq_false_imp,Bool.not_eq_true',Bool.not_eq_false',beq_iff_eq,beq_eq_false_iff_ne,bne_iff_ne,bne_eq_false_iff_eq,ne_eq,Bool.not_eq_eq_eq_not,Bool.not_true,Bool.not_false,Int.not_lt,Int.not_le,Nat.not_lt,Nat.not_le]); exact rfl)
    (h1:A->X->G = true->(QeE P all o r K S true) = Q1:=by intro f1 hZ hG; (try rewrite [hG]); (first | rewrite [(hZ:_ = false)] | rewrite [(hZ:_ = true)] | skip); (try simp (maxSteps:=2000000) (implicitDefEqProofs:=false) (disch:=first | omega | assumption | (simp only [List.length_cons,List.length_nil,Nat.zero_add,Nat.reduceAdd]; done) | (simp only [IntKind.wrap_i64]; omega) | (simp only [List.length_replicate,List.length_set,List.length_append,List.length_cons,List.length_nil,List.length_take,List.length_drop,List.length_map]<;>omega) | fail) only [go_sem,V.splice,V.mk,mkI,mkB,mkU,↓reduceIte,reduceCtorEq,Nat.reduceAdd,Nat.reduceLT,Nat.reduceLeDiff,Nat.reduceEqDiff,Nat.reduceMul,Nat.reduceSub,Nat.reduceBEq,Nat.reduceDiv,Nat.reducePow,Int.reduceToNat,Int.reduceLT,Int.reduceLE,Int.reduceNeg,Int.reduceAdd,Int.reduceSub,Int.reduceMul,Int.reduceEq,Int.reduceBEq,Int.reduceBNe,f1]); exact rfl)
    (h2:A->Y->G = false->(QeE P all o r K S false) = Q2:=by intro f1 hZ hG; (try rewrite [hG]); (first | rewrite [(hZ:_ = false)] | rewrite [(hZ:_ = true)] | skip); (try simp (maxSteps:=2000000) (implicitDefEqProofs:=false) (disch:=first | omega | assumption | (simp only [List.length_cons,List.length_nil,Nat.zero_add,Nat.reduceAdd]; done) | (simp only [IntKind.wrap_i64]; omega) | (simp only [List.length_replicate,List.length_set,List.length_append,List.length_cons,List.length_nil,List.length_take,List.length_drop,List.length_map]<;>omega) | fail) only [go_sem,V.splice,V.mk,mkI,mkB,mkU,↓reduceIte,reduceCtorEq,Nat.reduceAdd,Nat.reduceLT,Nat.reduceLeDiff,Nat.reduceEqDiff,Nat.reduceMul,Nat.reduceSub,Nat.reduceBEq,Nat.reduceDiv,Nat.reducePow,Int.reduceToNat,Int.reduceLT,Int.reduceLE,Int.reduceNeg,Int.reduceAdd,Int.reduceSub,Int.reduceMul,Int.reduceEq,Int.reduceBEq,Int.reduceBNe,f1]); exact rfl):QeE P all o r K S G:=
  Qf2 (fun e=>by subst e; exact (h1 a (hx ▸ rfl) rfl).mpr (q1 (hx ▸ rfl))) (fun e=>by subst e; exact (h2 a (hy ▸ rfl) rfl).mpr (q2 (hy ▸ rfl)))
theorem sD {A X Y Q1 Q2:Prop} {P:Program} {all:List Oper} {o:Oper} {r:List Oper} {fs:List (List Nat × Bool)} {K:St->Prop} {S:St} {G:Bool} (a:A) (q1:X->Q1) (q2:Y->Q2) (hx:(G = true) = X:=by (try simp only [decide_eq_true_eq,decide_eq_false_iff_not,Bool.or_eq_true,Bool.and_eq_true,Bool.or_eq_false_iff,Bool.and_eq_false_imp,Bool.not_eq_true',Bool.not_eq_false',beq_iff_eq,beq_eq_false_iff_ne,bne_iff_ne,bne_eq_false_iff_eq,ne_eq,Bool.not_eq_eq_eq_not,Bool.not_true,Bool.not_false,Int.not_lt,Int.not_le,Nat.not_lt,Nat.not_le]); exact rfl) (hy:(G = false) = Y:=by (try simp only [decide_eq_true_eq,decide_eq_false_iff_not,Bool.or_eq_true,Bool.and_eq_true,Bool.or_eq_false_iff,Bool.and_eq_false_imp,Bool.not_eq_true',Bool.not_eq_false',beq_iff_eq,beq_eq_false_iff_ne,bne_iff_ne,bne_eq_false_iff_eq,ne_eq,Bool.not_eq_eq_eq_not,Bool.not_true,Bool.not_false,Int.not_lt,Int.not_le,Nat.not_lt,Nat.not_le]); exact rfl)
    (h1:A->X->G = true->(QnW P all o r fs K S true) = Q1:=by intro f1 hZ hG; (try rewrite [hG]); (first | rewrite [(hZ:_ = false)] | rewrite [(hZ:_ = true)] | skip); (try simp (maxSteps:=2000000) (implicitDefEqProofs:=false) (disch:=first | omega | assumption | (simp only [List.length_cons,List.length_nil,Nat.zero_add,Nat.reduceAdd]; done) | (simp only [IntKind.wrap_i64]; omega) | (simp only [List.length_replicate,List.length_set,List.length_append,List.length_cons,List.length_nil,List.length_take,List.length_drop,List.length_map]<;>omega) | fail) only [go_sem,V.splice,V.mk,mkI,mkB,mkU,↓reduceIte,reduceCtorEq,Nat.reduceAdd,Nat.reduceLT,Nat.reduceLeDiff,Nat.reduceEqDiff,Nat.reduceMul,Nat.reduceSub,Nat.reduceBEq,Nat.reduceDiv,Nat.reducePow,Int.reduceToNat,Int.reduceLT,Int.reduceLE,Int.reduceNeg,Int.reduceAdd,Int.reduceSub,Int.reduceMul,Int.reduceEq,Int.reduceBEq,Int.reduceBNe,f1]); exact rfl)
    (h2:A->Y->G = false->(QnW P all o r fs K S false) = Q2:=by intro f1 hZ hG; (try rewrite [hG]); (first | rewrite [(hZ:_ = false)] | rewrite [(hZ:_ = true)] | skip); (try simp (maxSteps:=2000000) (implicitDefEqProofs:=false) (disch:=first | omega | assumption | (simp only [List.length_cons,List.length_nil,Nat.zero_add,Nat.reduceAdd]; done) | (simp only [IntKind.wrap_i64]; omega) | (simp only [List.length_replicate,List.length_set,List.length_append,List.length_cons,List.length_nil,List.length_take,List.length_drop,List.length_map]<;>omega) | fail) only [go_sem,V.splice,V.mk,mkI,mkB,mkU,↓reduceIte,reduceCtorEq,Nat.reduceAdd,Nat.reduceLT,Nat.reduceLeDiff,Nat.reduceEqDiff,Nat.reduceMul,Nat.reduceSub,Nat.reduceBEq,Nat.reduceDiv,Nat.reducePow,Int.reduceToNat,Int.reduceLT,Int.reduceLE,Int.reduceNeg,Int.reduceAdd,Int.reduceSub,Int.reduceMul,Int.reduceEq,Int.reduceBEq,Int.reduceBNe,f1]); exact rfl):QnW P all o r fs K S G:=
  QhQ (fun e=>by subst e; exact (h1 a (hx ▸ rfl) rfl).mpr (q1 (hx ▸ rfl))) (fun e=>by subst e; exact (h2 a (hy ▸ rfl) rfl).mpr (q2 (hy ▸ rfl)))
theorem sB {A X Y Q1 Q2:Prop} {P:Program} {c d:Code} {Q:Exit->St->Prop} {S:St} {G:Bool} (a:A) (q1:X->Q1) (q2:Y->Q2) (hx:(G = true) = X:=by (try simp only [decide_eq_true_eq,decide_eq_false_iff_not,Bool.or_eq_true,Bool.and_eq_true,Bool.or_eq_false_iff,Bool.and_eq_false_imp,Bool.not_eq_true',Bool.not_eq_false',beq_iff_eq,beq_eq_false_iff_ne,bne_iff_ne,bne_eq_false_iff_eq,ne_eq,Bool.not_eq_eq_eq_not,Bool.not_true,Bool.not_false,Int.not_lt,Int.not_le,Nat.not_lt,Nat.not_le]); exact rfl) (hy:(G = false) = Y:=by (try simp only [decide_eq_true_eq,decide_eq_false_iff_not,Bool.or_eq_true,Bool.and_eq_true,Bool.or_eq_false_iff,Bool.and_eq_false_imp,Bool.not_eq_true',Bool.not_eq_false',beq_iff_eq,beq_eq_false_iff_ne,bne_iff_ne,bne_eq_false_iff_eq,ne_eq,Bool.not_eq_eq_eq_not,Bool.not_true,Bool.not_false,Int.not_lt,Int.not_le,Nat.not_lt,Nat.not_le]); exact rfl)
    (h1:A->X->G = true->(Qx P c Q S) = Q1:=by intro f1 hZ hG; (try rewrite [hG]); (first | rewrite [(hZ:_ = false)] | rewrite [(hZ:_ = true)] | skip); (try simp (maxSteps:=2000000) (implicitDefEqProofs:=false) (disch:=first | omega | assumption | (simp only [List.length_cons,List.length_nil,Nat.zero_add,Nat.reduceAdd]; done) | (simp only [IntKind.wrap_i64]; omega) | (simp only [List.length_replicate,List.length_set,List.length_append,List.length_cons,List.length_nil,List.length_take,List.length_drop,List.length_map]<;>omega) | fail) only [go_sem,V.splice,V.mk,mkI,mkB,mkU,↓reduceIte,reduceCtorEq,Nat.reduceAdd,Nat.reduceLT,Nat.reduceLeDiff,Nat.reduceEqDiff,Nat.reduceMul,Nat.reduceSub,Nat.reduceBEq,Nat.reduceDiv,Nat.reducePow,Int.reduceToNat,Int.reduceLT,Int.reduceLE,Int.reduceNeg,Int.reduceAdd,Int.reduceSub,Int.reduceMul,Int.reduceEq,Int.reduceBEq,Int.reduceBNe,f1]); exact rfl)
    (h2:A->Y->G = false->(Qx P d Q S) = Q2:=by intro f1 hZ hG; (try rewrite [hG]); (first | rewrite [(hZ:_ = false)] | rewrite [(hZ:_ = true)] | skip); (try simp (maxSteps:=2000000) (implicitDefEqProofs:=false) (disch:=first | omega | assumption | (simp only [List.length_cons,List.length_nil,Nat.zero_add,Nat.reduceAdd]; done) | (simp only [IntKind.wrap_i64]; omega) | (simp only [List.length_replicate,List.length_set,List.length_append,List.length_cons,List.length_nil,List.length_take,List.length_drop,List.length_map]<;>omega) | fail) only [go_sem,V.splice,V.mk,mkI,mkB,mkU,↓reduceIte,reduceCtorEq,Nat.reduceAdd,Nat.reduceLT,Nat.reduceLeDiff,Nat.reduceEqDiff,Nat.reduceMul,Nat.reduceSub,Nat.reduceBEq,Nat.reduceDiv,Nat.reducePow,Int.reduceToNat,Int.reduceLT,Int.reduceLE,Int.reduceNeg,Int.reduceAdd,Int.reduceSub,Int.reduceMul,Int.reduceEq,Int.reduceBEq,Int.reduceBNe,f1]); exact rfl):vbr P c d Q S G:=
  Qa7 (fun e=>by subst e; exact (h1 a (hx ▸ rfl) rfl).mpr (q1 (hx ▸ rfl))) (fun e=>by subst e; exact (h2 a (hy ▸ rfl) rfl).mpr (q2 (hy ▸ rfl)))
theorem vp {A Q:Prop} {P:Program} {g:FuncId} {args:List DV} {hp:Qa} {K:DV->Qa->Prop} {d:DV} (a:A) (c:VCalls P g args [] (Ret d)) (q:Q) (ha:DV.nums.go (fun _=>false) args = true:=by rfl) (h:A->K d hp = Q:=by intro f1; (try simp (maxSteps:=2000000) (implicitDefEqProofs:=false) (disch:=first | omega | assumption | (simp only [List.length_cons,List.length_nil,Nat.zero_add,Nat.reduceAdd]; done) | (simp only [IntKind.wrap_i64]; omega) | (simp only [List.length_replicate,List.length_set,List.length_append,List.length_cons,List.length_nil,List.length_take,List.length_drop,List.length_map]<;>omega) | fail) only [go_sem,V.splice,V.mk,mkI,mkB,mkU,↓reduceIte,reduceCtorEq,Nat.reduceAdd,Nat.reduceLT,Nat.reduceLeDiff,Nat.reduceEqDiff,Nat.reduceMul,Nat.reduceSub,Nat.reduceBEq,Nat.reduceDiv,Nat.reducePow,Int.reduceToNat,Int.reduceLT,Int.reduceLE,Int.reduceNeg,Int.reduceAdd,Int.reduceSub,Int.reduceMul,Int.reduceEq,Int.reduceBEq,Int.reduceBNe,f1]); exact rfl):VCalls P g args hp K:=Qax c ha ((h a).mpr q)
theorem vd {A Q:Prop} {P:Program} {g:FuncId} {args:List DV} {K:DV->Prop} {d:DV} (a:A) (c:VCalls P g args [] (Ret d)) (q:Q) (ha:DV.nums.go (fun _=>false) args = true:=by rfl) (hd:d.nums (fun _=>false) = true:=by rfl) (h:A->K d = Q:=by intro f1; (try simp (maxSteps:=2000000) (implicitDefEqProofs:=false) (disch:=first | omega | assumption | (simp only [List.length_cons,List.length_nil,Nat.zero_add,Nat.reduceAdd]; done) | (simp only [IntKind.wrap_i64]; omega) | (simp only [List.length_replicate,List.length_set,List.length_append,List.length_cons,List.length_nil,List.length_take,List.length_drop,List.length_map]<;>omega) | fail) only [go_sem,V.splice,V.mk,mkI,mkB,mkU,↓reduceIte,reduceCtorEq,Nat.reduceAdd,Nat.reduceLT,Nat.reduceLeDiff,Nat.reduceEqDiff,Nat.reduceMul,Nat.reduceSub,Nat.reduceBEq,Nat.reduceDiv,Nat.reducePow,Int.reduceToNat,Int.reduceLT,Int.reduceLE,Int.reduceNeg,Int.reduceAdd,Int.reduceSub,Int.reduceMul,Int.reduceEq,Int.reduceBEq,Int.reduceBNe,f1]); exact rfl):vdc P g args K:=QtW c ha hd ((h a).mpr q)
theorem vl {A Q:Prop} {P:Program} {g:FuncId} {args args0:List DV} {hp:Qa} {K:DV->Qa->Prop} {d:DV} (a:A) (c:VCalls P g args0 [] (Ret d)) (q:Q) (ha:A->Qh (args.map (Qpq hp)) = some args0:=by intro f1; first | (simp (maxSteps:=2000000) (implicitDefEqProofs:=false) (disch:=first | omega | assumption | (simp only [List.length_cons,List.length_nil,Nat.zero_add,Nat.reduceAdd]; done) | (simp only [IntKind.wrap_i64]; omega) | (simp only [List.length_replicate,List.length_set,List.length_append,List.length_cons,List.length_nil,List.length_take,List.length_drop,List.length_map]<;>omega) | fail) only [go_sem,V.splice,V.mk,mkI,mkB,mkU,↓reduceIte,reduceCtorEq,Nat.reduceAdd,Nat.reduceLT,Nat.reduceLeDiff,Nat.reduceEqDiff,Nat.reduceMul,Nat.reduceSub,Nat.reduceBEq,Nat.reduceDiv,Nat.reducePow,Int.reduceToNat,Int.reduceLT,Int.reduceLE,Int.reduceNeg,Int.reduceAdd,Int.reduceSub,Int.reduceMul,Int.reduceEq,Int.reduceBEq,Int.reduceBNe,f1]<;>fail "no") | fail "no") (hf:d.flat = true:=by rfl) (h:A->K d hp = Q:=by intro f1; (try simp (maxSteps:=2000000) (implicitDefEqProofs:=false) (disch:=first | omega | assumption | (simp only [List.length_cons,List.length_nil,Nat.zero_add,Nat.reduceAdd]; done) | (simp only [IntKind.wrap_i64]; omega) | (simp only [List.length_replicate,List.length_set,List.length_append,List.length_cons,List.length_nil,List.length_take,List.length_drop,List.length_map]<;>omega) | fail) only [go_sem,V.splice,V.mk,mkI,mkB,mkU,↓reduceIte,reduceCtorEq,Nat.reduceAdd,Nat.reduceLT,Nat.reduceLeDiff,Nat.reduceEqDiff,Nat.reduceMul,Nat.reduceSub,Nat.reduceBEq,Nat.reduceDiv,Nat.reducePow,Int.reduceToNat,Int.reduceLT,Int.reduceLE,Int.reduceNeg,Int.reduceAdd,Int.reduceSub,Int.reduceMul,Int.reduceEq,Int.reduceBEq,Int.reduceBNe,f1]); exact rfl):VCalls P g args hp K:=Qt0 c (ha a) hf ((h a).mpr q)
theorem vr {P:Program} {g:FuncId} {args:List DV} {hp:Qa} {K:DV->Qa->Prop} {R:DV->Prop} (c:VCalls P g args [] fun r h'=>h' = []/\r.nums (fun _=>false) = true/\R r) (q:∀ r,R r->K r hp) (ha:DV.nums.go (fun _=>false) args = true:=by rfl):VCalls P g args hp K:=QmB c ha q
theorem gc (keep:List Nat) {S S':St} (h1:S'.nt = S.nt:=by rfl) (h2:S'.base = S.base:=by rfl) (h3:keep.take S.base = List.range S.base:=by rfl) (h4:keep.Nodup:=by decide) (h5:QCT keep S.hp keep S'.hp:=by (repeat' apply And.intro)<;>first | trivial | rfl | exact ⟨_,rfl,rfl,rfl,.inl ⟨rfl,rfl⟩⟩ | exact ⟨_,rfl,rfl,rfl,.inl ⟨Qq _ _ _,rfl⟩⟩ | exact ⟨_,rfl,rfl,rfl,.inl ⟨QfP _ _,rfl⟩⟩ | exact ⟨_,rfl,rfl,rfl,.inr ⟨rfl,rfl⟩⟩) (h6:QCO keep S.tm S'.tm:=by (repeat' apply And.intro)<;>first | trivial | rfl | exact ⟨_,rfl,rfl,rfl,.inl ⟨rfl,rfl⟩⟩ | exact ⟨_,rfl,rfl,rfl,.inl ⟨Qq _ _ _,rfl⟩⟩ | exact ⟨_,rfl,rfl,rfl,.inl ⟨QfP _ _,rfl⟩⟩ | exact ⟨_,rfl,rfl,rfl,.inr ⟨rfl,rfl⟩⟩):Qpu S S':=QBW h1 h2 h3 h4 h5 h6
end Go.V
namespace Go.V
variable {P:Program} {γ:Type} {Γ:γ->World->World->Map->Qa->Prop}
@[congr] theorem QAd (c:Code) (Q:Exit->St->γ->Prop) {S S':St} (g:γ) (h:S = S'):VWpG P Γ c Q S g = VWpG P Γ c Q S' g:=by rw [h]
@[congr] theorem QzP (o:Oper) (K:St->γ->Prop) {S S':St} (g:γ) (h:S = S'):Qlc P Γ o K S g = Qlc P Γ o K S' g:=by rw [h]
@[congr] theorem QBD (ops:Array Oper) (o:Oper) (K:St->γ->Prop) {S S':St} (g:γ) (h:S = S'):OpG P Γ ops o K S g = OpG P Γ ops o K S' g:=by rw [h]
@[congr] theorem QAC (ops:Array Oper) (K:St->Prop) {S S':St} (h:S = S'):QCB P ops K S = QCB P ops K S':=by rw [h]
@[congr] theorem QAk (ops:Array Oper) (ch:List (List Oper × Option Oper)) (K:St->γ->Prop) {S S':St} (g:γ) (h:S = S'):Qxy P Γ ops ch K S g = Qxy P Γ ops ch K S' g:=by rw [h]
@[congr] theorem Qxh {S1 S1':St} (g:γ) (S':St) (g':γ) (h:S1 = S1'):WeakG Γ S1 g S' g' = WeakG Γ S1' g S' g':=by rw [h]
@[congr] theorem QAn (ops:Array Oper) (k:Nat) (K:St->Prop) {S S':St} (h:S = S'):QCJ P ops k K S = QCJ P ops k K S':=by rw [h]
theorem QxJ (ops:Array Oper) (k:Nat) (K:St->Prop) (nt base:Nat) (tm:List (Nat × DV)) (hp:Qa):QCJ P ops k K ⟨nt,base,tm,hp⟩ = vdr P (Qas ops k).toList (ops.toList.drop (k + 1)) (List.replicate (k + 1) ([],false)) K ⟨nt,base,tm,hp⟩:=rfl
theorem Ql1 (after:Array Edge) (f:List Nat × Bool) (m:Nat) (r:List (List Nat × Bool)):∀ n,QR after f n (List.replicate m ([],false) ++ r) = QR after f (n + m) r:=by
  induction m with
  | zero=>intro n; simp
  | succ m ih =>
    intro n
    rw [List.replicate_succ,List.cons_append,Qkm,ih,show n + 1 + m = n + (m + 1) by omega]
theorem Qkr (after:Array Edge) (f:List Nat × Bool) (m:Nat) (n:Nat):QR after f n (List.replicate m ([],false)) = true:=by
  have:=Ql1 after f m [] n
  rw [List.append_nil] at this
  rw [this]; rfl
theorem Ql2 (after:Array Edge) (f:List Nat × Bool) (a b:List (List Nat × Bool)):∀ n,QR after f n (a ++ b) = (QR after f n a && QR after f (n + a.length) b):=by
  induction a with
  | nil=>intro n; simp [QR]
  | cons x r ih =>
    intro n
    rw [List.cons_append]
    unfold QR
    rw [ih,Bool.and_assoc,List.length_cons,show n + 1 + r.length = n + (r.length + 1) by omega]
    congr 2
    cases hb:b<;>simp [QR]
theorem Qfx (Q:Exit->St->γ->Prop) (K:St->γ->Prop) (S:St) (g:γ):QbU Q K .normal S g = K S g:=rfl
theorem QiX (Q:Exit->St->γ->Prop) (K:St->γ->Prop) (S:St) (g:γ):QbU Q K .ret S g = Q .ret S g:=rfl
theorem Qhs (Q:Exit->St->γ->Prop) (K:St->γ->Prop) (id:Nat) (S:St) (g:γ):QbU Q K (.exit id) S g = Q (.exit id) S g:=rfl
theorem Qgy (id:Nat) (Q:Exit->St->γ->Prop) (S:St) (g:γ):QfR id Q .normal S g = Q .normal S g:=rfl
theorem QiY (id id':Nat) (Q:Exit->St->γ->Prop) (S:St) (g:γ):QfR id Q (.exit id') S g = if id' = id then Q .normal S g else Q (.exit id') S g:=rfl
theorem QBs (nt base:Nat) (tm:List (Nat × DV)) (hp:Qa):St.reb ⟨nt,base,tm,hp⟩ = ⟨nt,hp.length,tm,hp⟩:=rfl
attribute [go_sem] QxJ Ql2 Qkr Qfx QiX Qhs Qgy QiY QBs QnL List.length_append Qbe Qn9 QvM Qmq Qmd Qn7 Nat.sub_self Qvs Qvr
def Qpv (P:Program) (T:TypeId):Option Value:=(P.info? T).bind (·.zero)
theorem Qd5 {T:TypeId} {z:Value} (h:Qpv P T = some z):∀ w,(zeroValue T).run P w = .ok z w:=fun w=>by
  unfold Qpv at h
  cases hi:P.info? T with
  | none=>rw [hi] at h; cases h
  | some i =>
    rw [hi] at h
    have h':i.zero = some z:=h
    simp [zeroValue,typeInfo,hi,h']
theorem QfE {v:Value} (h:v.oneCell' = true):∀ (w:World) (β:Map) (hp:Qa),RelD w β hp (.pv (.lit v)) v:=fun _ _ _=>.pv _ _ (.lit _ h)
abbrev kI:Int->Value:=fun x=>.int .i64 x
theorem QdL {κ:Type} {enc:κ->Value} {k:κ} {d:DV} (h:d = .pv (.lit (enc k))):∀ (w:World) (β:Map) (hp:Qa) (v:Value),RelD w β hp d v->v = enc k:=fun w β hp v hr=>by
  subst h
  exact Qi hr
end Go.V
namespace Go.V
end Go.V
namespace Go.V
variable {P:Program} {γ:Type} {Γ:γ->World->World->Map->Qa->Prop}
def QzR (l:List Oper):List Nat->List (List Oper × Option Oper)
  | []=>[(l,none)]
  | k :: r=>match l[k]? with
    | some o=>(l.take k,some o) :: QzR (l.drop (k + 1)) r
    | none=>[(l,none)]
theorem Qnu:∀ (ks:List Nat) (l:List Oper),Qba (QzR l ks) = l
  | [],l=>by simp [QzR,Qba]
  | k :: r,l=>by
    unfold QzR
    cases h:l[k]? with
    | none=>simp [Qba]
    | some o =>
      simp only [Qba,Qnu r]
      have hlt:=(List.getElem?_eq_some_iff.1 h).1
      have e:l[k] = o:=(List.getElem?_eq_some_iff.1 h).2
      conv=>rhs; rw [<- List.take_append_drop k l]
      congr 1
      rw [List.drop_eq_getElem_cons hlt,e]
def Qjw (P:Program) (Γ:γ->World->World->Map->Qa->Prop) (ops:Array Oper) (l:List Oper) (ks:List Nat) (K:St->γ->Prop) (S:St) (g:γ):Prop:=Qxy P Γ ops (QzR l ks) K S g
def QpW (P:Program) (Γ:γ->World->World->Map->Qa->Prop) (ops:Array Oper) (x:Option Oper) (A B:List Oper) (ks:List Nat) (K:St->γ->Prop) (S:St) (g:γ):Prop:=match x with
  | some o=>Qag P ops.toList A (fun S1=>OpG P Γ ops o (Qjw P Γ ops B ks K) S1 g) S.reb
  | none=>False
theorem QpV (ops:Array Oper) (l:List Oper) (K:St->γ->Prop) (S:St) (g:γ):Qjw P Γ ops l [] K S g = Qag P ops.toList l (fun S1=>K S1 g) S.reb:=rfl
theorem QnO (ops:Array Oper) (o:Oper) (A B:List Oper) (ks:List Nat) (K:St->γ->Prop) (S:St) (g:γ):QpW P Γ ops (some o) A B ks K S g = Qag P ops.toList A (fun S1=>OpG P Γ ops o (Qjw P Γ ops B ks K) S1 g) S.reb:=rfl
@[congr] theorem Qxx (ops:Array Oper) {x x':Option Oper} {A A' B B':List Oper} (ks:List Nat) (K:St->γ->Prop) (S:St) (g:γ) (h1:x = x') (h2:A = A') (h3:B = B'):QpW P Γ ops x A B ks K S g = QpW P Γ ops x' A' B' ks K S g:=by rw [h1,h2,h3]
@[congr] theorem Qxw (ops:Array Oper) (l:List Oper) (ks:List Nat) (K:St->γ->Prop) {S S':St} (g:γ) (h:S = S'):Qjw P Γ ops l ks K S g = Qjw P Γ ops l ks K S' g:=by rw [h]
theorem VWpG.cut (hΓ:∀ g,Stable (Γ g)) {id:Nat} {ops:Array Oper} {Q:Exit->St->γ->Prop} {S:St} {g:γ} (ks:List Nat) (h:Qjw P Γ ops ops.toList ks (Q .normal) S g):VWpG P Γ (.region id ops false) Q S g:=
  VWpG.region hΓ (QzR ops.toList ks) (Qnu ks _).symm h
theorem QfF {ops:Array Oper} {l:List Oper} {k:Nat} {ks:List Nat} {K:St->γ->Prop} {S:St} {g:γ} (h:QpW P Γ ops l[k]? (l.take k) (l.drop (k + 1)) ks K S g):Qjw P Γ ops l (k :: ks) K S g:=by
  unfold Qjw QzR
  cases e:l[k]? with
  | none=>rw [e] at h; exact h.elim
  | some o=>rw [e] at h; exact h
theorem VWpG.cut1 (hΓ:∀ g,Stable (Γ g)) {id:Nat} {ops:Array Oper} {Q:Exit->St->γ->Prop} {S:St} {g:γ} (k:Nat) (ks:List Nat) (h:QpW P Γ ops ops.toList[k]? (ops.toList.take k) (ops.toList.drop (k + 1)) ks (Q .normal) S g):VWpG P Γ (.region id ops false) Q S g:=VWpG.cut hΓ (k :: ks) (QfF h)
attribute [go_sem ↓] QpV QnO
theorem VWpG.weakG {c:Code} {Q:Exit->St->γ->Prop} {S S':St} {g g':γ} (h:VWpG P Γ c Q S' g') (hw:WeakG Γ S g S' g'):VWpG P Γ c Q S g:=fun O β a w hs=>by
  obtain ⟨β',h'⟩:=hw O β a w hs
  exact h O β' a w h'
theorem VWpG.mono {c:Code} {Q Q':Exit->St->γ->Prop} {S:St} {g:γ} (h:VWpG P Γ c Q S g) (hq:∀ e S g,Q e S g->Q' e S g):VWpG P Γ c Q' S g:=fun O β a w hs=>
  wp_mono (h O β a w hs) fun _ _ _ ⟨β',S',g',k1,k2⟩=>⟨β',S',g',k1,hq _ _ _ k2⟩
structure FrH (hp h':Qa) (A:Nat->Prop):Prop where
  len:hp.length<=h'.length
  same:∀ j,j < hp.length->¬ A j->h'[j]? = hp[j]?
theorem FrH.refl (hp:Qa) (A:Nat->Prop):FrH hp hp A:=⟨Nat.le_refl _,fun _ _ _=>rfl⟩
theorem FrH.app {hp h':Qa} {A:Nat->Prop} (h:FrH hp h' A) (r:Qa):FrH hp (h' ++ r) A:=⟨by rw [List.length_append]; have:=h.len; omega,fun j hj ha=>by rw [List.getElem?_append_left (Nat.lt_of_lt_of_le hj h.len)]; exact h.same j hj ha⟩
theorem FrH.set {hp h':Qa} {A:Nat->Prop} (h:FrH hp h' A) {k:Nat} (hk:A k) (cs:List DV):FrH hp (Qp h' k cs) A:=⟨by rw [Qn8]; exact h.len,fun j hj ha=>by rw [QoI (fun e=>ha (by rw [<- e]; exact hk))]; exact h.same j hj ha⟩
theorem FrH.kill {hp h':Qa} {A:Nat->Prop} (h:FrH hp h' A) {k:Nat} (hk:A k):FrH hp (kill h' k) A:=⟨by rw [QvB]; exact h.len,fun j hj ha=>by rw [Qme (fun e=>ha (by rw [<- e]; exact hk))]; exact h.same j hj ha⟩
theorem FrH.trans {hp h1 h2:Qa} {A B:Nat->Prop} (h:FrH hp h1 A) (g:FrH h1 h2 B) (hAB:∀ j,j < hp.length->B j->A j):FrH hp h2 A:=⟨Nat.le_trans h.len g.len,fun j hj ha=>by rw [g.same j (Nat.lt_of_lt_of_le hj h.len) (fun hb=>ha (hAB j hj hb))]; exact h.same j hj ha⟩
theorem Qpb {hp h':Qa} {k:Nat} (h:h'[k]? = hp[k]?):Qf h' k = Qf hp k:=by unfold Qf; rw [h]
end Go.V
namespace Go.V
open Go
def QC {α:Type} (f:α->DV) (Q:α->Prop):DV->Qa->Prop:=fun r h'=>h' = []/\r.nums (fun _=>false) = true/\∃ a,r = f a/\Q a
theorem Qj {α:Type} {f:α->DV} {Q:α->Prop} {P:Program} {g:FuncId} {args:List DV} {hp:Qa} {K:DV->Qa->Prop} (c:VCalls P g args [] (QC f Q)) (ha:DV.nums.go (fun _=>false) args = true) (h:∀ a,Q a->K (f a) hp):VCalls P g args hp K:=
  QmB (R:=fun r=>∃ a,r = f a/\Q a) c ha fun r ⟨a,e,q⟩=>e ▸ h a q
theorem QtZ {α:Type} {f:α->DV} {Q:α->Prop} {P:Program} {g:FuncId} {args args0:List DV} {hp:Qa} {K:DV->Qa->Prop} (c:VCalls P g args0 [] (QC f Q)) (ha:Qh (args.map (Qpq hp)) = some args0) (hf:∀ a,(f a).flat = true) (h:∀ a,Q a->K (f a) hp):VCalls P g args hp K:=
  (VCalls.lendA (R:=fun r=>∃ a,r = f a/\Q a) ha (c.mono fun r h' e=>⟨e.1,by obtain ⟨_,_,a,rfl,_⟩:=e; exact hf a,e.2.2⟩)).mono fun r h' e=>by obtain ⟨rfl,a,rfl,q⟩:=e; exact h a q
theorem QiB {α:Type} {f:α->DV} {Q:α->Prop} {P:Program} {g:FuncId} {args args0:List DV} {hp:Qa} {K:DV->Qa->Prop} (sel:List Nat) (args1:List DV) (h0:Qa) (c:VCalls P g args0 [] (QC f Q)) (hh0:h0 = sel.map fun k=>hp.getD k default) (hpl:Qgt hp sel) (hnd:sel.Nodup)
    (ha1:args1 = args.map (DV.ren fun j=>sel.idxOf j)) (ha:DV.nums.go sel.contains args = true) (hf:Qh (args1.map (Qpq h0)) = some args0)
    (h:∀ a,Q a->K (f a) (QkE hp sel)):VCalls P g args hp K:=by
  subst hh0
  have c1:=VCalls.giveA (R:=fun r=>r.nums (fun _=>false) = true/\∃ a,r = f a/\Q a) hf (c.mono fun r h' e=>⟨e.1,e.2.1,e.2⟩)
  refine (VCalls.frame sel hnd (QcJ hpl) (QcK hpl) c1 ha1 ha).mono ?_
  rintro r h2 ⟨r0,h',⟨rfl,hn,a,rfl,q⟩,_,rfl,rfl⟩
  rw [Qfm fun k hk=>(Qde hpl k hk).1,Qe9 _ _ hn]
  exact h a q
attribute [go_sem] DV.ren DV.ren.go List.idxOf_cons List.getD_cons_succ List.getD_cons_zero
theorem VCalls.S {α:Type} {f:α->DV} {Q R:α->Prop} {P:Program} {g:FuncId} {args:List DV} {hp:Qa} (c:VCalls P g args hp (QC f Q)) (h:∀ a,Q a->R a):VCalls P g args hp (QC f R):=
  c.mono fun _ _ ⟨h1,h2,a,e,q⟩=>⟨h1,h2,a,e,h a q⟩
theorem VCalls.toS {α:Type} {f:α->DV} {Q:α->Prop} {P:Program} {g:FuncId} {args:List DV} {hp:Qa} {d:DV} (c:VCalls P g args hp (Ret d)) (a:α) (e:d = f a) (q:Q a):VCalls P g args hp (QC f Q):=
  c.mono fun _ _ ⟨h1,h2,h3⟩=>⟨h1,h2,a,h3.trans e,q⟩
theorem RelD.own_nil {w:World} {β:Map} {hp:Qa} {k sz off:Nat} {v:Value} (h:RelD w β hp (.own k sz off 0) v):RelD w β hp (.pv (.sl [])) v:=by
  cases h with
  | own _ _ _ _ cap b C T m h1 h2 h3 h4 h5 h6 =>
    exact .pv _ _ (.sl [] (some ⟨b,off,none⟩) cap 0 (fun _ _=>undef) (Nat.zero_le _) h4 (by simp) (by intro ad e _; cases e; rfl) (by simp) (by simp))
  | own0 _ _ a h1 h2 h3 =>
    exact .pv _ _ (.sl [] a 0 0 (fun _ _=>undef) (Nat.zero_le _) (Nat.zero_le _) (by simp) (by intro ad e h; omega) (by simp) (by simp))
def ne1:DV->DV
  | .own _ _ _ 0=>.pv (.sl [])
  | d=>d
theorem QrS {k sz off n:Nat} (h:0 < n):ne1 (.own k sz off n) = .own k sz off n:=by cases n; omega; rfl
theorem Qni {k sz off:Nat}:ne1 (.own k sz off 0) = .pv (.sl []):=rfl
theorem QwT {p:PV}:ne1 (.pv p) = .pv p:=rfl
theorem RelD.ne1 {w:World} {β:Map} {hp:Qa} {d:DV} {v:Value} (h:RelD w β hp d v):RelD w β hp (V.ne1 d) v:=by
  unfold V.ne1
  split
  · exact h.own_nil
  · exact h
def DV.ne:DV->DV
  | .agg cs=>.agg (cs.map ne1)
  | d=>d
theorem RelD.ne {w:World} {β:Map} {hp:Qa} {d:DV} {v:Value} (h:RelD w β hp d v):RelD w β hp d.ne v:=by
  cases h with
  | agg ds vs h1 h2 =>
    refine .agg _ vs (by rw [List.length_map]; exact h1) fun i d hd=>?_
    rw [List.getElem?_map] at hd
    obtain ⟨x,e1,e2⟩:=Qy hd
    subst e2
    exact (h2 i x e1).ne1
  | pv p v h=>exact .pv p v h
  | ptr k off b h hb=>exact .ptr k off b h hb
  | own k sz off len cap b C T m h hb h1 h2 h3 h4=>exact .own k sz off len cap b C T m h hb h1 h2 h3 h4
  | ownc k sz off len cap b o C T m h hb h1 h2 h3 h4 h5=>exact .ownc k sz off len cap b o C T m h hb h1 h2 h3 h4 h5
  | own0 k sz a h1 h2 h3=>exact .own0 k sz a h1 h2 h3
  | ip cs ad val h1 h2 h3=>exact .ip cs ad val h1 h2 h3
  | fn f ds es vs us h1 h2 h3 h4=>exact .fn f ds es vs us h1 h2 h3 h4
  | tup ds vs h1 h2=>exact .tup ds vs h1 h2
  | opt c d v h1 h2=>exact .opt c d v h1 h2
  | any v=>exact .any v
theorem VCalls.neA {P:Program} {g:FuncId} {args:List DV} {hp:Qa} {R:DV->Qa->Prop} (c:VCalls P g (args.map DV.ne) hp R):VCalls P g args hp R:=
  ⟨fun w β vs hh ha=>c.run w β vs hh ⟨by rw [List.length_map]; exact ha.1,fun i d hd=>by
    rw [List.getElem?_map] at hd
    obtain ⟨x,h1,h2⟩:=Qy hd
    subst h2
    exact (ha.2 i x h1).ne⟩⟩
theorem nf {b:Bool} (h:b = true):¬ b = false:=by simp [h]
theorem nt {b:Bool} (h:b = false):¬ b = true:=by simp [h]
theorem QaZ {α:Type} {n m:Nat} {a b:Option α} (h:n<=m):(if n<=m then a else b) = a:=if_pos h
end Go.V
namespace Go.V
def polyB:BitVec 32:=2197175160#32
def rb (r:BitVec 32):BitVec 32:=(r >>> 1) ^^^ (if r.getLsbD 0 = true then polyB else 0#32)
def rbN:Nat->BitVec 32->BitVec 32
  | 0,r=>r
  | n + 1,r=>rb (rbN n r)
theorem QBy (x y:BitVec 32):rb (x ^^^ y) = rb x ^^^ rb y:=by
  apply BitVec.eq_of_getLsbD_eq
  intro i hi
  simp only [rb,BitVec.getLsbD_xor,BitVec.getLsbD_ushiftRight]
  cases x.getLsbD 0<;>cases y.getLsbD 0<;>simp<;>cases x.getLsbD (1 + i)<;>cases y.getLsbD (1 + i)<;>cases polyB.getLsbD i<;>rfl
theorem QyI (n:Nat) (x y:BitVec 32):rbN n (x ^^^ y) = rbN n x ^^^ rbN n y:=by
  induction n with
  | zero=>rfl
  | succ n ih=>simp only [rbN,ih,QBy]
theorem QyK (m n:Nat) (x:BitVec 32):rbN (m + n) x = rbN m (rbN n x):=by
  induction m with
  | zero=>simp [rbN]
  | succ m ih=>rw [Nat.add_right_comm]; simp only [rbN,ih]
theorem QyJ (n:Nat) (x:BitVec 32) (h:∀ i,i < n->x.getLsbD i = false):rbN n x = x >>> n:=by
  induction n with
  | zero=>simp [rbN]
  | succ n ih =>
    rw [rbN,ih (fun i hi=>h i (by omega)),rb]
    have e:(x >>> n).getLsbD 0 = false:=by rw [BitVec.getLsbD_ushiftRight]; exact h _ (by omega)
    rw [e]
    simp [BitVec.shiftRight_add]
def b32 (b:UInt8):BitVec 32:=b.toBitVec.setWidth 32
def cb (r:BitVec 32) (b:UInt8):BitVec 32:=rbN 8 (r ^^^ b32 b)
def le:List UInt8->BitVec 32
  | []=>0#32
  | b :: l=>b32 b ^^^ (le l <<< 8)
theorem Qx4 (x:BitVec 32) (n:Nat) (h:∀ i,32 - n<=i->x.getLsbD i = false) (hn:n<=32):rbN n (x <<< n) = x:=by
  rw [QyJ _ _ (fun i hi=>by simp [BitVec.getLsbD_shiftLeft,hi])]
  apply BitVec.eq_of_getLsbD_eq
  intro i hi
  simp only [BitVec.getLsbD_ushiftRight,BitVec.getLsbD_shiftLeft]
  by_cases h1:n + i < 32
  · simp [h1]
  · simp [h1]; rw [h i (by omega)]
theorem Qcr (b:BitVec 32):IntKind.u32.wrap (b.toNat:Int) = (b.toNat:Int):=by
  have:=b.isLt
  simp [IntKind.wrap,IntKind.signed,IntKind.bits]; omega
theorem Qel (x:BitVec 32):BitVec.ofInt 32 (x.toNat:Int) = x:=by
  apply BitVec.eq_of_toNat_eq
  have:=x.isLt
  simp
theorem Qpx (x y:BitVec 32):bits .xor .u32 (x.toNat:Int) (y.toNat:Int) = ((x ^^^ y).toNat:Int):=by
  show IntKind.u32.wrap ((BitVec.ofInt 32 (x.toNat:Int) ^^^ BitVec.ofInt 32 (y.toNat:Int)).toNat:Int) = _
  rw [Qel,Qel,Qcr]
theorem QCo (x y:BitVec 32):bits .and .u32 (x.toNat:Int) (y.toNat:Int) = ((x &&& y).toNat:Int):=by
  show IntKind.u32.wrap ((BitVec.ofInt 32 (x.toNat:Int) &&& BitVec.ofInt 32 (y.toNat:Int)).toNat:Int) = _
  rw [Qel,Qel,Qcr]
theorem QA9 (x:BitVec 32) (n:Nat):(x.toNat:Int).fdiv (2 ^ n) = ((x >>> n).toNat:Int):=by
  have e:((2:Int) ^ n) = ((2 ^ n:Nat):Int):=by rw [Int.natCast_pow]; rfl
  rw [e,Int.fdiv_eq_ediv_of_nonneg _ (Int.natCast_nonneg _),BitVec.toNat_ushiftRight,Nat.shiftRight_eq_div_pow]
  rfl
theorem Qtk (b:UInt8):IntKind.u32.wrap (b.toNat:Int) = ((b32 b).toNat:Int):=by
  have e:(b32 b).toNat = b.toNat:=by
    have:=b.toNat_lt
    simp [b32]
  rw [<- e,Qcr]
end Go.V
namespace Go.V
open Go.RowKit (Below)
theorem VWp0.postK {P:Program} {c:Code} {rs:List ResultVar} {n:Nat} {R:DV->Qa->Prop} {S:St} (h:VWp0 P c (Qe6 P rs n R) S):VWp0 P c (Qcv P rs n R) S:=fun O β a w hs hd=>
  wp_mono (h O β a w hs hd) fun _ _ _ ⟨β',_,hs',hq⟩=>⟨β',_,hs'.on (QjY hs'.reb),hq⟩
theorem Qe7 {P:Program} {g:FuncId} {args:List DV} {h:Qa} {R:DV->Qa->Prop} {fn:Func} {c:Code} (hf:P.funcs[g]? = some fn) (hb:fn.body = some c) (hname:(fn.name == "runtime.NumGoroutine") = false) (hn:args.length<=fn.ntmps)
    (hc:VWp0 P c (Qe6 P fn.results.toList h.length R) ⟨fn.ntmps,h.length,QfV 0 args,h⟩):VCalls P g args h R:=Qf6 hf hb hname hn hc.postK
theorem QhI {P:Program} {rd:Option Nat} {n l:Nat} {o:Oper} {c:Call} {f:Operand} {a:Act} {W:World} {next:Act->World->Prop} {Q:Exit->Act->World->Prop} {R:Ending->World->Prop}
    (hop:o.op = .call c) (hcal:c.callee = .value f) (hf:a.eval f = .func (.yield l) #[] #[]) {args:Array Value} (hargs:c.args.map a.eval = args) (hY:YieldAt (wd rd) (n - 1) P l args W R)
    (hn:∀ e W',R e W'->∃ v,e = .returned v/\next (a.put o.dst v) W'):o.wpIn (wd rd) n P a W next Q:=by
  obtain ⟨fn,tmps,assign,body,hy,hR⟩:=hY
  have hrun:(execOp a.eval o).run P W = .ok (.round l fn tmps assign body) W:=by
    subst hargs
    simp [execOp,hop,resolve,hcal,hf,Deferred.ofValue,invoke,hy]
  refine ⟨fun _ _=>trivial,?_⟩
  rw [Oper.semAt_plain _ _ _ (by rw [hop]; intro c h; cases h),hrun,Oper.uponIn_round]
  refine ⟨fun h=>by simp [Fence.wide] at h,hR.mono ?_⟩
  intro e W' hr
  obtain ⟨v,rfl,hv⟩:=hn e W' hr
  exact hv
def PV.fix:PV->Bool
  | .lit v=>v.oneCell'
  | .str _=>true
  | _=>false
def PV.val:PV->Value
  | .lit v=>v
  | .str l=>.string ⟨l.toArray⟩
  | _=>undef
theorem PV.fix_rel {w:World} {im:Nat->Prop} {p:PV} (h:p.fix = true):RelP w im p p.val:=by
  cases p with
  | lit v=>exact .lit v h
  | str l=>exact .str l
  | _=>simp [PV.fix] at h
theorem PV.fix_eq {w:World} {im:Nat->Prop} {p:PV} {v:Value} (h:p.fix = true) (hr:RelP w im p v):v = p.val:=by
  cases hr with
  | lit v _=>rfl
  | str l=>rfl
  | _=>simp [PV.fix] at h
theorem Qh0 {w:World} {β:Map} {hp:Qa} {l:Nat}:RelD w β hp (.fn (.yield l) [] []) (.func (.yield l) #[] #[]):=.fn _ [] [] #[] #[] rfl rfl (by simp) (by simp)
def Qdv:Map:=⟨fun _=>none,fun _=>False⟩
theorem Qsk (w:World):HeapRel w Qdv []:=⟨fun k B b h=>by simp at h,fun k B h=>by simp at h,fun j k B B' b h=>by simp at h,fun k B b h=>by simp at h,fun b h=>h.elim⟩
theorem QDp {b:Nat}:¬ img Qdv [] b:=by
  rintro (h | ⟨k,B,h,_⟩)
  · exact h
  · simp at h
theorem Evo.quiet {w w':World} {β:Map} (e:Evo w Qdv [] w' β []):w.grownBy w' none:=by
  refine ⟨e.os,e.tape,e.output,e.size,fun k hk _=>e.same k hk ?_⟩
  rintro ⟨j,B,h,_⟩
  simp at h
structure ItA (l:Nat) (vcap:Value) (a:Act):Prop where
  s:a.tmps.size = 19
  y:a.tmps.getD 0 undef = .func (.yield l) #[] #[]
  c:a.tmps.getD 1 undef = vcap
theorem Qdj {a:Act} {dst:Option Tmp} {t:Nat} (h:dst ≠ some t) (v:Value):(a.put dst v).tmps.getD t undef = a.tmps.getD t undef:=by
  cases dst with
  | none=>rfl
  | some u =>
    have e:u ≠ t:=fun e=>h (by rw [e])
    simp [Act.put,Array.getD_eq_getD_getElem?,e]
theorem ItA.put {l:Nat} {vcap:Value} {a:Act} (h:ItA l vcap a) {dst:Option Tmp} (h0:dst ≠ some 0) (h1:dst ≠ some 1) (v:Value):ItA l vcap (a.put dst v):=
  ⟨by rw [Qcd]; exact h.s,by rw [Qdj h0]; exact h.y,by rw [Qdj h1]; exact h.c⟩
theorem Qee {w:World} {β:Map} {hp:Qa} {l:Nat} {v:Value} (h:RelD w β hp (.fn (.yield l) [] []) v):v = .func (.yield l) #[] #[]:=by
  cases h with
  | fn _ _ _ vs us l1 l2 _ _ =>
    rw [Array.eq_empty_of_size_eq_zero l1.symm,Array.eq_empty_of_size_eq_zero l2.symm]
theorem Qef {P:Program} {rd:Option Nat} {n id:Nat} {ops:Array Oper} {Q:Exit->Act->World->Prop} {K:St->Prop} {T:Act->Prop} {O:Org} {β:Map} {S:St} {a:Act} {w:World} (hs:Sim O β S a w) (ht:T a) (h:Qag P ops.toList ops.toList K S)
    (hT:∀ o ∈ ops.toList,∀ (a:Act) (v:Value),T a->T (a.put o.dst v)) (hK:∀ β S a w,Sim O β S a w->T a->K S->Q .normal a w):(Code.region id ops false).wpIn (wd rd) n P Q a w:=by
  refine wpIn_region ?_
  have:=QaD (P:=P) (rd:=rd) (n:=n) (O:=O) (ops:=ops) (Q:=Q) (tail:=[]) hT (K:=K) (fun β S a w h1 h2 h3=>hK β S a w h1 h2 h3) ops.toList [] [] (by simp) β S a w hs ht h
  simpa [List.range_eq_range'] using this
theorem Qe4 {F:Fence} {n:Nat} {P:Program} {ops:Array Oper} {Q:Exit->Act->World->Prop} {i:Nat} {rest:List Nat} {a:Act} {w:World} {o:Oper} (hi:ops[i]? = some o) (hw:Region.wanted o (yielded ops a.tmps) = true) (h:o.wpIn F n P a w (wpOpsIn F n P ops Q rest) Q):wpOpsIn F n P ops Q (i :: rest) a w:=by
  simp only [wpOpsIn,hi,hw,if_true]; exact h
structure ItI (w:World) (β:Map) (hp:Qa) (l:Nat) (vcap:Value) (n:Nat) (J:List (Fin n)->World->Prop) (k:Nat) (a:Act) (W:World):Prop where
  hk:k<=n
  d:a.defers = []
  it:ItA l vcap a
  i:a.tmps.getD 3 undef = .int .i64 ((k:Int) - 1)
  L:Lies w β hp W
  j:J ((down n).take (n - k)) W
end Go.V
namespace Go.V
open Go.RowKit (Below)
def Wk (S S':St):Prop:=∀ (O:Org) (β:Map) (a:Act) (w:World),Sim O β S a w->∃ β',Sim O β' S' a w
theorem Wk.refl (S:St):Wk S S:=fun _ β _ _ h=>⟨β,h⟩
theorem Wk.weak {S S':St} (h:Qpu S S'):Wk S S':=fun _ _ _ _ hs=>hs.weak h
theorem Wk.trans {S S' S'':St} (h:Wk S S') (h':Wk S' S''):Wk S S'':=fun O β a w hs=>let ⟨_,h1⟩:=h O β a w hs; h' O _ a w h1
theorem Wk.wkS (S:St):Wk S ⟨S.nt,S.base,Qlz S.tm,Qfg S.hp⟩:=fun _ β _ _ h=>⟨β,QjY h⟩
theorem Wk.nilOwnC {S:St} (k j:Nat) (T:TypeId) (sz:Nat) {B:Blk} (hk:S.hp[k]? = some B) (hd:B.cells[j]? = some (.pv (.slc []))) :
    Wk S ⟨S.nt,S.base,S.tm,(S.hp ++ [(⟨T,true,[]⟩:Blk)]).set k ⟨B.ty,B.live,B.cells.set j (.own S.hp.length sz 0 0)⟩⟩:=fun O β a w hs=>by
  have e:Evo w β S.hp w (ext β S.hp.length none) (S.hp ++ [(⟨T,true,[]⟩:Blk)]):=by
    refine ⟨rfl,rfl,rfl,Nat.le_refl _,by simp,fun j hj=>QaN hj,fun _ _ _=>rfl,fun _ C _ m h=>⟨C,m,h,rfl⟩,fun b _ hb=>?_,rfl⟩
    obtain ⟨j,D,g1,g2,g3⟩:=hb
    rcases Nat.lt_trichotomy j S.hp.length with hlt | heq | hgt
    · rw [List.getElem?_append_left hlt] at g1; rw [QaN hlt] at g3; exact ⟨j,D,g1,g2,g3⟩
    · subst heq; simp [ext] at g3
    · rw [List.getElem?_append_right (by omega),List.getElem?_eq_none (by simp; omega)] at g1; simp at g1
  have h2:Sim O (ext β S.hp.length none) ⟨S.nt,S.base,S.tm,S.hp ++ [⟨T,true,[]⟩]⟩ a w:=
    ⟨hs.defers,hs.size,fun u=>(hs.tm u).mono e,QcF hs.heap rfl e (by simp) (fun _=>rfl) (fun _ _=>rfl),hs.evo.trans e,hs.base⟩
  have hlt:k < S.hp.length:=(List.getElem?_eq_some_iff.1 hk).1
  refine ⟨_,QmN h2 (k:=k) (j:=j) (B:=B) (d:=.pv (.slc [])) (d':=.own S.hp.length sz 0 0) (by show (S.hp ++ _)[k]? = _; rw [List.getElem?_append_left hlt]; exact hk) hd rfl ?_⟩
  intro v hv
  cases hv with
  | pv _ _ hp0=>cases hp0 with
    | slc _ ad sz2 val g1 g2 g3 g4 g5=>exact .own0 _ _ ad (by simp) (by simp [ext]) trivial
theorem Qwx {nt base:Nat} {hp hp':Qa} (k j:Nat) (T:TypeId) (sz:Nat) {B:Blk} (hk:hp[k]? = some B) (hd:B.cells[j]? = some (.pv (.slc []))) (he:hp' = (hp ++ [(⟨T,true,[]⟩:Blk)]).set k ⟨B.ty,B.live,B.cells.set j (.own hp.length sz 0 0)⟩) :
    Wk ⟨nt,base,[],hp⟩ ⟨nt,base,[],hp'⟩:=by rw [he]; exact Wk.nilOwnC (S:=⟨nt,base,[],hp⟩) k j T sz hk hd
def QCt (P:Program) (gf:Nat) (caps:List DV) (n:Nat) (enc:Nat->Array Value):Prop :=
  ∀ (vs:Array Value) (l:Nat) (J:Nat->World->Prop) (Jx:World->Prop) (W:World),
    (∀ k X Y,J k X->X.grownBy Y none->J k Y)->(∀ X Y,Jx X->X.grownBy Y none->Jx Y)->(∀ k X,J k X->RelL X Qdv [] caps vs) ->
    (∀ k,k < n->∀ X Y,J k X->X.grownBy Y none->YieldAt Fence.wide 8 P l (enc k) Y fun e Z=>
      (e = .returned (.bool true)/\J (k + 1) Z/\∀ (b:Nat) (o:Obj),X.heap.size<=b->Y.heap[b]? = some o->Z.heap[b]? = some o)\/(e = .returned (.bool false)/\Jx Z)) ->
    J 0 W->CallsIn Fence.wide 9 P gf (#[.func (.yield l) #[] #[]] ++ vs) W fun e Z=>(∃ v,e = .returned v)/\(J n Z\/Jx Z)
def QfJ (P:Program) (assign:Code) (B:(Exit->St->Prop)->St->Prop) (Kn:St->Prop) (Kr:Qa->Prop) (S0:St):Prop:=
  Qx P assign (fun e S1=>e = .normal/\B (fun e S'=>match e with | .normal=>Kn S' | .ret=>Kr S'.hp | _=>False) { S1 with base:=S1.hp.length }) S0
def Qyb (a:Act) (w:World) (β:Map) (hp:Qa) (n:Nat) (I:Nat->Qa) (G:Nat->Prop) (Rr:Nat->Qa->Prop) (e:Exit) (a':Act) (W:World):Prop :=
  ∃ D,w.heap.size<=D/\W.heap[D]? = some (.deferred (some []))/\a' = { a with defers:={ target:=.collected D,args:=#[] } :: a.defers } /\
    ((e = .normal/\G n/\∃ β1,HeapRel W β1 (I n)/\Evo w β hp W β1 (I n)) \/
     (e = .ret/\∃ k β1 hp',k < n/\HeapRel W β1 hp'/\Evo w β hp W β1 hp'/\Rr k hp'))
structure SeqJ (w:World) (β:Map) (hp:Qa) (hk:Qa) (rec:Loop) (W:World):Prop where
  rel:∃ β1,HeapRel W β1 hk/\Evo w β hp W β1 hk
  own:W.heap[w.heap.size + 1]? = some (.loop rec)
  dfr:W.heap[w.heap.size]? = some (.deferred (some []))
theorem SeqJ.grown {w X Y:World} {β:Map} {hp hk:Qa} {rec:Loop} (h:SeqJ w β hp hk rec X) (hg:X.grownBy Y none):SeqJ w β hp hk rec Y:=by
  obtain ⟨⟨β1,h1,h2⟩,h3,h4⟩:=h
  refine ⟨⟨β1,h1.up (Up.grown hg fun r e=>by cases e),h2.grown hg fun r e=>by cases e⟩,?_,?_⟩
  · rw [hg.block _ (Array.getElem?_eq_some_iff.1 h3).1 (by simp)]; exact h3
  · rw [hg.block _ (Array.getElem?_eq_some_iff.1 h4).1 (by simp)]; exact h4
theorem SeqJ.turn {w X:World} {β:Map} {hp hk:Qa} {rec:Loop} (h:SeqJ w β hp hk rec X) (rec':Loop):SeqJ w β hp hk rec' (X.putObj (w.heap.size + 1) (.loop rec')):=by
  obtain ⟨⟨β1,h1,h2⟩,h3,h4⟩:=h
  have hg:=grownBy_putObj' X (w.heap.size + 1) (.loop rec')
  have hr:∀ r,some (w.heap.size + 1) = some r->w.heap.size<=r/\∃ o:Obj,X.heap[r]? = some o/\o.isCells = false:=fun r e=>by cases e; exact ⟨by omega,_,h3,rfl⟩
  exact ⟨⟨β1,h1.up (Up.grown hg fun r e=>(hr r e).2),h2.grown hg hr⟩,World.putObj_heap_same (Array.getElem?_eq_some_iff.1 h3).1,(World.putObj_heap_other (by omega)).trans h4⟩
theorem QEb {P:Program} {O:Org} {β:Map} {S:St} {a:Act} {w:World} (hs:Sim O β S a w) {g:Operand} {p0 p1:Tmp} {assign body:Code} {gf:Nat} {capsD caps:List DV} {fn:Func} {n:Nat} {enc:Nat->Array Value}
    (hgS:S.ev g = .fn (.func gf) [] capsD) (hf1:P.funcs[gf]? = some fn) (hf2:(fn.name == "runtime.NumGoroutine") = false) (hf3:fn.body.isNone = false)
    (hV:QCt P gf caps n enc) (h0:p0 < S.nt) (h1:p1 < S.nt) (d0 d1:Nat->DV) (v0 v1:Nat->Value) (henc:∀ k,k < n->enc k = #[v0 k,v1 k])
    (hd0:∀ k W β1 hp1,k < n->RelD W β1 hp1 (d0 k) (v0 k)) (hd1:∀ k W β1 hp1,k < n->RelD W β1 hp1 (d1 k) (v1 k))
    (I:Nat->Qa) (hI0:Wk ⟨S.nt,S.hp.length,[],S.hp⟩ ⟨S.nt,S.hp.length,[],I 0⟩) (G:Nat->Prop) (hG0:G 0)
    (hcap:∀ k W β1 us,HeapRel W β1 (I k)->RelL W β1 (I k) capsD us->RelL W Qdv [] caps us)
    (Rr:Nat->Qa->Prop) (hpa:QaA assign = true) {B:(Exit->St->Prop)->St->Prop} (hB:BodyOf P body B)
    (hbody:∀ k,k < n->G k->QfJ P assign B (fun S'=>G (k + 1)/\Wk ⟨S.nt,S.hp.length,[],S'.hp⟩ ⟨S.nt,S.hp.length,[],I (k + 1)⟩) (Rr k) ⟨S.nt,(I k).length,(p1,d1 k) :: (p0,d0 k) :: S.tm,I k⟩) :
    (Code.rangeFunc g #[p0,p1] assign body).wp P (Qyb a w β S.hp n I G Rr) a w:=by
  have hgv:=hs.ev g
  rw [hgS] at hgv
  generalize hv:a.eval g = gv at hgv
  cases hgv with
  | fn _ _ _ vs us l1 l2 r1 r2=>
  have hvs:vs = #[]:=Array.eq_empty_of_size_eq_zero l1.symm
  subst hvs
  have hsz:=hs.size
  have hus:RelL w β S.hp capsD us:=⟨l2,r2⟩
  -- what is laid at the start
  obtain ⟨W1,hW1⟩:∃ W1,W1 = (w.alloc (.deferred (some []))):=⟨_,rfl⟩
  rw [<- wpIn_wide (n:=10)]
  refine wpIn_rangeFunc ?_
  intro fc hfc
  let rec0:LoopState->Option Code->Loop:=fun st pe=>{ state:=st,pending:=pe,fn:=fc,tmps:=a.tmps,params:=#[p0,p1],assign,body,defers:=w.heap.size }
  let W0:World:=(w.alloc (.deferred (some []))).alloc (.loop (rec0 .ready none))
  have g1:w.grownBy (w.alloc (.deferred (some []))) none:=World.grownBy_alloc w _ none
  have g2:(w.alloc (.deferred (some []))).grownBy W0 none:=World.grownBy_alloc _ _ none
  have hO:Sim ⟨w,β,S.hp,a.defers⟩ β ⟨S.nt,S.hp.length,[],S.hp⟩ a w:=⟨rfl,hs.size,fun _=>.any _,hs.heap,Evo.refl _ _ _,rfl⟩
  obtain ⟨β0,hI⟩:=hI0 _ _ _ _ hO
  have nn:∀ (X:World) (r:Nat),none = some r->w.heap.size<=r/\∃ o:Obj,X.heap[r]? = some o/\o.isCells = false:=fun X r e=>by cases e
  have hJ0:SeqJ w β S.hp (I 0) (rec0 .ready none) W0:=by
    refine ⟨⟨β0,(hI.heap.up (Up.grown g1 fun r e=>(nn w r e).2)).up (Up.grown g2 fun r e=>(nn (w.alloc (.deferred (some []))) r e).2),(hI.evo.grown g1 (nn w)).grown g2 (nn _)⟩,?_,?_⟩
    · have:=World.alloc_heap_new (w.alloc (.deferred (some []))) (.loop (rec0 .ready none)); rwa [World.size_alloc] at this
    · exact (Below.heap_alloc _ _ _ (by simp)).trans (World.alloc_heap_new w _)
  refine ⟨w.heap.size + 1,[{ target:=.collected w.heap.size,args:=#[] }],W0,{ target:=.fn (.func gf) us,args:=#[.func (.yield (w.heap.size + 1)) #[] #[]] },W0,gf,#[.func (.yield (w.heap.size + 1)) #[] #[]] ++ us,W0,run_enterLoop_outer _ _ _ _ _,?_,fun _ _=>trivial,?_,fun _=>by decide,?_⟩
  · simp only [resolve,hv]
    simp [go_sem]
  · simp [invoke,go_sem,Qbb hf1 hf2 hf3]
  refine (hV us (w.heap.size + 1) (fun k W=>G k/\SeqJ w β S.hp (I k) (rec0 .ready none) W)
    (fun W=>∃ k hp',k < n/\Rr k hp'/\SeqJ w β S.hp hp' (rec0 .done (some .ret)) W) W0 (fun k X Y h hg=>⟨h.1,h.2.grown hg⟩) (fun X Y ⟨k,hp',h1,h2,h3⟩ hg=>⟨k,hp',h1,h2,h3.grown hg⟩) ?cap ?round ⟨hG0,hJ0⟩).mono ?_
  case cap=>
    rintro k X ⟨_,⟨β1,e1,e2⟩,_,_⟩
    exact hcap k X β1 us e1 ⟨hus.1,fun i d hd=>(hus.2 i d hd).mono e2⟩
  case round=>
    rintro k hk X Y hJX hXY
    obtain ⟨hGk,⟨βX,hhX,evX⟩,hlX,hdX⟩:=hJX
    have hY:SeqJ w β S.hp (I k) (rec0 .ready none) Y:=SeqJ.grown ⟨⟨βX,hhX,evX⟩,hlX,hdX⟩ hXY
    have uXY:Up X Y:=Up.grown hXY fun r e=>by cases e
    have hhY:HeapRel Y βX (I k):=hhX.up uXY
    have evY:Evo w β S.hp Y βX (I k):=evX.grown hXY fun r e=>by cases e
    -- no block of the caller's is of after X
    have old:∀ b,V.live βX (I k) b->b < X.heap.size:=by
      rintro b ⟨j,D,q1,q2,q3⟩
      obtain ⟨C,c1,_⟩:=hhX.blk j D b q1 q2 q3
      exact (Array.getElem?_eq_some_iff.1 c1).1
    have hsX:w.heap.size + 1 < X.heap.size:=(Array.getElem?_eq_some_iff.1 hlX).1
    have hy:=run_yield (P:=P) (args:=enc k) hY.own (by rw [henc k hk]; rfl)
    refine ⟨fc,_,assign,body,hy,roundIn_of_wpIn (n:=8) hfc ?_⟩
    have e1:((rec0 .ready none).params.zip (enc k)).foldl (fun (t:Array Value) (x:Tmp × Value)=>t.setIfInBounds x.1 x.2) (rec0 .ready none).tmps = (a.tmps.setIfInBounds p0 (v0 k)).setIfInBounds p1 (v1 k):=by rw [henc k hk]; simp [rec0]
    rw [e1]
    have hsim:Sim ⟨Y,βX,I k,[]⟩ βX ⟨S.nt,(I k).length,(p1,d1 k) :: (p0,d0 k) :: S.tm,I k⟩ { tmps:=(a.tmps.setIfInBounds p0 (v0 k)).setIfInBounds p1 (v1 k),defers:=[] } Y:=by
      refine ⟨rfl,by simpa using hsz,fun t=>?_,hhY,Evo.refl _ _ _,rfl⟩
      dsimp only
      rw [Qcf (by simpa [hsz] using h1),Qcf (by simpa [hsz] using h0)]
      simp only [look]
      split
      · exact hd1 k _ _ _ hk
      split
      · exact hd0 k _ _ _ hk
      · exact (hs.tm t).mono evY
    refine wpIn_mono (Q0 (rd:=some (w.heap.size + 1)) (n:=8) assign _ _ hpa (hbody k hk hGk) _ _ _ _ hsim) ?_
    rintro e a1 Wa ⟨β2,S1,hs1,rfl,hc⟩
    -- the record is busy
    have keep1:∀ (b:Nat) (o:Obj),Y.heap[b]? = some o->(o.isCells = false\/X.heap.size<=b)->Wa.heap[b]? = some o:=by
      intro b o hb ho
      rw [hs1.evo.same b (Array.getElem?_eq_some_iff.1 hb).1 ?_]
      · exact hb
      intro hl
      rcases ho with ho | ho
      · obtain ⟨j,D,q1,q2,q3⟩:=hl
        obtain ⟨C,c1,_⟩:=hhY.blk j D b q1 q2 q3
        rw [hb] at c1; cases c1; cases ho
      · have:=old b hl; omega
    have hla:=keep1 _ _ hY.own (.inl rfl)
    have hda:=keep1 _ _ hY.dfr (.inl rfl)
    refine ⟨_,run_beginRound hla rfl,?_⟩
    have hJa:SeqJ w β S.hp S1.hp (rec0 .ready none) Wa:=⟨⟨β2,hs1.heap,evY.trans hs1.evo⟩,hla,hda⟩
    have hga:=grownBy_putObj' Wa (w.heap.size + 1) (.loop { rec0 .ready none with state:=.busy })
    have hra:∀ r,some (w.heap.size + 1) = some r->w.heap.size<=r/\∃ o:Obj,Wa.heap[r]? = some o/\o.isCells = false:=fun r e=>by cases e; exact ⟨by omega,_,hla,rfl⟩
    have hJb:=hJa.turn { rec0 .ready none with state:=.busy }
    generalize hWb:Wa.putObj (w.heap.size + 1) (.loop { rec0 .ready none with state:=.busy }) = Wb at hga hJb |-
    have uab:Up Wa Wb:=Up.grown hga fun r e=>(hra r e).2
    have hsimb:Sim ⟨Wb,β2,S1.hp,[]⟩ β2 { S1 with base:=S1.hp.length } a1 Wb:=⟨hs1.defers,hs1.size,fun t=>(hs1.tm t).up uab,hs1.heap.up uab,Evo.refl _ _ _,rfl⟩
    refine wpIn_mono (hB (some (w.heap.size + 1)) 8 _ _ hc _ _ _ _ hsimb) ?_
    rintro e a2 Wc ⟨β3,S2,hs2,hq⟩
    have evc:Evo w β S.hp Wc β3 S2.hp:=((evY.trans hs1.evo).grown hga hra).trans hs2.evo
    have keep2:∀ (b:Nat) (o:Obj),Wb.heap[b]? = some o->(o.isCells = false\/(X.heap.size<=b/\b < Y.heap.size))->Wc.heap[b]? = some o:=by
      intro b o hb ho
      rw [hs2.evo.same b (Array.getElem?_eq_some_iff.1 hb).1 ?_]
      · exact hb
      intro hl
      rcases ho with ho | ⟨ho,ho2⟩
      · obtain ⟨j,D,q1,q2,q3⟩:=hl
        obtain ⟨C,c1,_⟩:=hsimb.heap.blk j D b q1 q2 q3
        rw [hb] at c1; cases c1; cases ho
      · have:=old b (hs1.evo.im b ho2 hl); omega
    have hlc:=keep2 _ _ hJb.own (.inl rfl)
    have hdc:=keep2 _ _ hJb.dfr (.inl rfl)
    -- how it ends
    cases e with
    | normal =>
      have hSc:Sim ⟨w,β,S.hp,[]⟩ β3 ⟨S.nt,S.hp.length,[],S2.hp⟩ { tmps:=a.tmps,defers:=[] } Wc:=⟨rfl,hsz,fun t=>.any _,hs2.heap,evc,rfl⟩
      obtain ⟨β4,hS4⟩:=hq.2 _ _ _ _ hSc
      have hJc:SeqJ w β S.hp (I (k + 1)) { rec0 .ready none with state:=.busy } Wc:=⟨⟨β4,hS4.heap,hS4.evo⟩,hlc,hdc⟩
      refine ⟨_,_,run_endRound none hlc,.inl ⟨rfl,⟨hq.1,hJc.turn _⟩,fun b o hb hYb=>?_⟩⟩
      have hlt:b < Y.heap.size:=(Array.getElem?_eq_some_iff.1 hYb).1
      have q1:=keep1 b o hYb (.inr hb)
      have q2:Wb.heap[b]? = some o:=by rw [<- hWb]; exact (World.putObj_heap_other (by omega)).trans q1
      exact (World.putObj_heap_other (by omega)).trans (keep2 b o q2 (.inr ⟨hb,hlt⟩))
    | ret =>
      have hJc:SeqJ w β S.hp S2.hp { rec0 .ready none with state:=.busy } Wc:=⟨⟨β3,hs2.heap,evc⟩,hlc,hdc⟩
      exact ⟨_,_,run_endRound (some .ret) hlc,.inr ⟨rfl,k,S2.hp,hk,hq,hJc.turn _⟩⟩
    | _=>exact hq.elim
  -- QT the iterator
  rintro e W2 ⟨⟨v,rfl⟩,⟨hGn,hJ⟩ | ⟨k,hp',hk,hR,hJ⟩⟩
  · refine ⟨none,_,run_endLoop hJ.own (by simp [rec0]),w.heap.size,Nat.le_refl _,?_,rfl,.inl ⟨rfl,hGn,?_⟩⟩
    · exact (hJ.turn _).dfr
    · exact (hJ.turn _).rel
  · refine ⟨some .ret,_,run_endLoop hJ.own (by simp [rec0]),wpIn_ret ⟨w.heap.size,Nat.le_refl _,?_,rfl,.inr ⟨rfl,?_⟩⟩⟩
    · exact (hJ.turn _).dfr
    · obtain ⟨β1,q1,q2⟩:=(hJ.turn { rec0 .done (some .ret) with state:=.exhausted }).rel
      exact ⟨k,β1,hp',hk,q1,q2,hR⟩
theorem VWp0.seqK {P:Program} {Q:Exit->St->Prop} {S:St} {g:Operand} {p0 p1:Tmp} {assign body:Code} {gf:Nat} {capsD caps:List DV} {fn:Func} {n:Nat} {enc:Nat->Array Value}
    (hgS:S.ev g = .fn (.func gf) [] capsD) (hf1:P.funcs[gf]? = some fn) (hf2:(fn.name == "runtime.NumGoroutine") = false) (hf3:fn.body.isNone = false)
    (hV:QCt P gf caps n enc) (h0:p0 < S.nt) (h1:p1 < S.nt) (d0 d1:Nat->DV) (v0 v1:Nat->Value) (henc:∀ k,k < n->enc k = #[v0 k,v1 k])
    (hd0:∀ k W β1 hp1,k < n->RelD W β1 hp1 (d0 k) (v0 k)) (hd1:∀ k W β1 hp1,k < n->RelD W β1 hp1 (d1 k) (v1 k))
    (I:Nat->Qa) (hI0:Wk ⟨S.nt,S.hp.length,[],S.hp⟩ ⟨S.nt,S.hp.length,[],I 0⟩) (G:Nat->Prop) (hG0:G 0)
    (hcap:∀ k W β1 us,HeapRel W β1 (I k)->RelL W β1 (I k) capsD us->RelL W Qdv [] caps us)
    (Rr:Nat->Qa->Prop) (hpa:QaA assign = true) {B:(Exit->St->Prop)->St->Prop} (hB:BodyOf P body B)
    (hbody:∀ k,k < n->G k->QfJ P assign B (fun S'=>G (k + 1)/\Wk ⟨S.nt,S.hp.length,[],S'.hp⟩ ⟨S.nt,S.hp.length,[],I (k + 1)⟩) (Rr k) ⟨S.nt,(I k).length,(p1,d1 k) :: (p0,d0 k) :: S.tm,I k⟩)
    (hdone:G n->Q .normal { S with hp:=I n }) (hret:∀ k hp',k < n->Rr k hp'->Q .ret { S with hp:=hp' }) :
    VWp0 P (Code.rangeFunc g #[p0,p1] assign body) Q S:=fun O β a w hs hd=>by
  refine wp_mono (QEb (hs.reb) hgS hf1 hf2 hf3 hV h0 h1 d0 d1 v0 v1 henc hd0 hd1 I hI0 G hG0 hcap Rr hpa hB hbody) ?_
  rintro e a' W ⟨D,hD,hK,rfl,⟨rfl,hGn,β1,hh,ev⟩ | ⟨rfl,k,β1,hp',hk,hh,ev,hR⟩⟩
  · exact ⟨β1,{ S with hp:=I n },⟨hs.size,fun t=>(hs.tm t).mono ev,hh,hs.evo.trans ev,.inr ⟨D,by rw [hd],hK,Nat.le_trans hs.evo.size hD⟩⟩,hdone hGn⟩
  · exact ⟨β1,{ S with hp:=hp' },⟨hs.size,fun t=>(hs.tm t).mono ev,hh,hs.evo.trans ev,.inr ⟨D,by rw [hd],hK,Nat.le_trans hs.evo.size hD⟩⟩,hret k hp' hk hR⟩
end Go.V

