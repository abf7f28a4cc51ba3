/-
  V, part 25: the spine's rule: a call or a store comes up; the rule.
-/
import Derived.Test.YtkbahhackcnnbaaV2
import Derived.Lib.Builder
import Derived.Lib.Overlaps
namespace Go.V
section
variable {P : Program} {ops : Array Oper} {Fl Sp Cr fl : List Nat}

theorem sameAt_get {hp hp1 : Heap} : ∀ {l : List Nat}, sameAt hp hp1 l → ∀ k ∈ l, hp1[k]? = hp[k]?
  | [], _, k, hk => by simp at hk
  | a :: r, h, k, hk => by
    rcases List.mem_cons.1 hk with rfl | hk
    · exact h.1
    · exact sameAt_get h.2 k hk

theorem agree_get {all : List Oper} {S S1 : St} : ∀ {l : List Oper}, agree all S S1 l → ∀ o ∈ l, agree1 S S1 o (vguard all S1 o)
  | [], _, o, ho => by simp at ho
  | a :: r, h, o, ho => by
    rcases List.mem_cons.1 ho with rfl | ho
    · exact h.1
    · exact agree_get h.2 o ho

theorem creasOk_get {S : St} : ∀ {l : List Oper}, creasOk P S l → ∀ o ∈ l, S.fits o.dst = true ∧ creaOk P (fun x => strip true (S.ev x)) o.op
  | [], _, o, ho => by simp at ho
  | a :: r, h, o, ho => by
    rcases List.mem_cons.1 ho with rfl | ho
    · exact h.1
    · exact creasOk_get h.2 o ho

theorem spine_step {Q : Exit → Act → World → Prop} {O : Org} {K : St → Prop} {s : Seg} {r : List Seg} {rb : Nat → Option Nat} {β : Map} {S : St} {L : Array Bool} {a : Act} {w : World} (st : Stat ops Fl Sp Cr fl (s :: r)) (h : MInv P ops O fl (s :: r) rb β S L a w) {o : Oper} (ho : ops[s.c]? = some o)
    (hd : ∀ e ∈ o.after, Region.binds .any e = true → L.getD e.on false = true) (hv : vsp P ops.toList (s :: r) K S) {next : Act → World → Prop}
    (hn : ∀ rb' β' S' a' w', MInv P ops O (fl ++ s.H) r rb' β' S' (L.setIfInBounds s.c true) a' w' → vsp P ops.toList r K S' → next a' w') :
    if Region.wanted o (yielded ops a.tmps) then o.wp P a w next Q ∨ (o.asks P a w ∧ LetsOut Q) else next (a.put o.dst undef) w := by
  have hclt : s.c < ops.size := (Array.getElem?_eq_some_iff.1 ho).1
  have hL : L.getD s.c false = false := h.sp s.c (by simp)
  have hsegs := st.ok
  simp only [segsOk, Bool.and_eq_true] at hsegs
  have so := seg_spec hsegs.1
  have hcd := segsOk_cd st.ok
  have hcdr := segsOk_cd hsegs.2
  have hcs : (s :: r).flatMap (·.C) = s.C ++ r.flatMap (·.C) := List.flatMap_cons
  have hHs : (s :: r).flatMap (·.H) = s.H ++ r.flatMap (·.H) := List.flatMap_cons
  have hSpn : ((s :: r).map (·.c)).Nodup := by obtain ⟨dn, e⟩ := st.hSp; have := st.g.ns; rw [e] at this; exact (List.nodup_append.1 this).2.1
  rw [List.map_cons, List.nodup_cons] at hSpn
  have hCrn : ((s :: r).flatMap (·.C)).Nodup := by obtain ⟨dn, e⟩ := st.hCr; have := st.g.nc; rw [e] at this; exact (List.nodup_append.1 this).2.1
  have hcSp : s.c ∈ Sp := st.sp_sub s.c (by simp)
  have hcFl : ¬ s.c ∈ Fl := fun hf => (st.g.fs _ hf).1 hcSp
  have hcCr : ¬ s.c ∈ Cr := st.g.sc _ hcSp
  have crSp : ∀ j ∈ (s :: r).flatMap (·.C), ¬ j ∈ (s :: r).map (·.c) := fun j hj hs => st.g.sc j (st.sp_sub j hs) (st.cr_sub j hj)
  have flSp : ∀ f ∈ Fl, ¬ f ∈ (s :: r).map (·.c) := fun f hf hs => (st.g.fs f hf).1 (st.sp_sub f hs)
  have hHFl : ∀ f ∈ s.H, f ∈ Fl := fun f hf => by rw [st.hFl, hHs]; exact List.mem_append_right _ (List.mem_append_left _ hf)
  unfold vsp at hv
  obtain ⟨_, hv⟩ := hv
  rw [pick_append] at hv
  have hpc : pick ops.toList [s.c] = [o] := by simp only [pick, toList_get ho]
  rw [hpc] at hv
  have hCL : ∀ j ∈ s.C, L.getD j false = true := fun j hj => bnd_dep ho hd (so.cc j hj)
  have hcore := h.core
  rw [hcs] at hcore
  obtain ⟨rb', β', S', k1, k2, k3, k4, k5, k6⟩ := adopt_all (l := s.C) (cs := r.flatMap (·.C)) hcore (by rw [← hcs]; exact h.rv) (by rw [← hcs]; exact h.rbo) hCL
    (by
      rw [← hcs]
      intro j hj
      obtain ⟨oj, tj, q1, q2, q3, q4⟩ := hcd j hj
      refine ⟨oj, tj, q1, q2, q3, fun i hi hne => ?_⟩
      cases hu : uses ops i tj with
      | false => rfl
      | true =>
        obtain ⟨oi, _, p1, _⟩ := hcd i hi
        exact absurd (q4 i (Array.getElem?_eq_some_iff.1 p1).1 hne hu) (crSp i hi))
    (by rw [← hcs]; exact hCrn) hv
  -- the operation itself
  have hseen : ∀ u ∈ o.looksAt ops, ¬ hidOf ops fl (r.flatMap (·.C)) L u := fun u hu =>
    seen st.g st.fl_sub hcdr ho hd (uses_of_look ho hu) hSpn.1 hL (fun hf => absurd (st.fl_sub _ hf) hcFl)
  have hs := k2.only hseen
  have hrun := vrun_only (S' := S'.only (o.looksAt ops)) (fun t ht => only_look S' _ t ht) rfl rfl k1
  refine vstep_sound hs hrun (fun β2 d v hp2 w2 e1 e2 e3 hfit hK => ?_)
  obtain ⟨d', hp', heq, hag, hrunH⟩ := hK
  have hfit' : S'.fits o.dst = true := hfit
  have hhp : hp' = hp2 := by
    have := congrArg St.hp heq
    rw [St.put_hp, St.put_hp] at this
    exact this.symm
  subst hhp
  have hS1 : (S'.at hp').put o.dst d' = (S'.at hp').put o.dst d := by
    cases hdd : o.dst with
    | none => rfl
    | some t =>
      rw [hdd] at heq
      have := congrArg St.tm heq
      simp only [St.put, List.cons.injEq, Prod.mk.injEq] at this
      rw [this.1.2]
  rw [hS1] at hag hrunH
  have step := k2.step e1 e2 e3 hfit'
  generalize hS1e : (S'.at hp').put o.dst d = S1 at hag hrunH step
  have l1 : ∀ t, o.dst ≠ some t → look S1.tm t = look S'.tm t := fun t ht => by rw [← hS1e, put_lookeq, if_neg ht]; rfl
  have n1 : S1.nt = S'.nt := by rw [← hS1e, St.put_nt]; rfl
  have h1hp : S1.hp = hp' := by rw [← hS1e, St.put_hp]; rfl
  have hpairAll := inOrder_pair st.g (fun f hf => hf) st.g.fo st.g.nf
  rw [st.hFl, hHs, ← List.append_assoc, List.pairwise_append] at hpairAll
  obtain ⟨hpair1, _, _⟩ := hpairAll
  rw [List.pairwise_append] at hpair1
  obtain ⟨_, hpairH, hpairX⟩ := hpair1
  obtain ⟨S2, m1, m2, m3, m4, m5, m6⟩ := hoist_all (fun f hf => by obtain ⟨of, tf, q1, q2, q3, q4, _⟩ := st.g.fl f (hHFl f hf); exact ⟨of, tf, q1, q2, q3, q4⟩) hpairH hrunH
  refine hn rb' β2 S2 _ _ ?_ m1
  have hsz : s.c < L.size := by rw [h.lsz]; exact hclt
  have hself := set_self hsz
  have hoth : ∀ i, i ≠ s.c → (L.setIfInBounds s.c true).getD i false = L.getD i false := fun i hi => getD_set_ne false (Ne.symm hi)
  have hmono : ∀ i, L.getD i false = true → (L.setIfInBounds s.c true).getD i false = true := fun i hi => getD_set_true hi
  have hHL : ∀ f ∈ s.H, L.getD f false = false := fun f hf => h.flo f (by rw [hHs]; exact List.mem_append_left _ hf)
  have hcdo : ∀ t, o.dst = some t → dstOf ops s.c = some t := fun t ht => by simp [dstOf, ho, ht]
  -- slots of others that this operation does not write
  have keepF : ∀ f ∈ fl, L.getD f false = false → ∀ of, ops[f]? = some of → ∀ u ∈ of.looksAt ops, look S2.tm u = look S.tm u ∧ look S1.tm u = look S.tm u := by
    intro f hf hLf of hof u hu
    have a1 : o.dst ≠ some u := fun e => by
      rcases st.g.sp s.c hcSp u (hcdo u e) f (st.fl_sub f hf) (looks_of hof hu) with hb | hb
      · have := bnd_dep ho hd hb; rw [hLf] at this; cases this
      · rw [(so.fc f hf).1] at hb; cases hb
    have a2 : ∀ j ∈ s.C, dstOf ops j ≠ some u := fun j hj e => by
      obtain ⟨oj, tj, q1, q2, q3, q4⟩ := so.cd j hj
      have : tj = u := by simp only [dstOf, q1] at e; rw [q3] at e; exact Option.some.inj e
      subst this
      exact flSp f (st.fl_sub f hf) (q4 f (Array.getElem?_eq_some_iff.1 hof).1 (fun e => (st.g.fs f (st.fl_sub f hf)).2 (e ▸ st.cr_sub j (by rw [hcs]; exact List.mem_append_left _ hj))) (uses_of_look hof hu))
    have a3 : ∀ g ∈ s.H, dstOf ops g ≠ some u := fun g hg e => by
      have := hpairX f hf g hg u e
      rw [uses_of_look hof hu] at this; cases this
    exact ⟨(m5 u a3).trans ((l1 u a1).trans (k6 u a2)), (l1 u a1).trans (k6 u a2)⟩
  have keepD : ∀ f ∈ fl, L.getD f false = false → ∀ t, dstOf ops f = some t → f < ops.size → look S2.tm t = look S.tm t := by
    intro f hf hLf t ht hflt
    have a1 : o.dst ≠ some t := fun e => by
      obtain ⟨of, tf, q1, _, q2, _, q3⟩ := st.g.fl f (st.fl_sub f hf)
      have : tf = t := by simp only [dstOf, q1] at ht; rw [q2] at ht; exact Option.some.inj ht
      subst this
      have := bnd_dep ho hd (q3 s.c hclt (fun e => hcFl (e ▸ st.fl_sub f hf)) (uses_of_dst (hcdo tf e)))
      rw [hLf] at this; cases this
    have a2 : ∀ j ∈ s.C, dstOf ops j ≠ some t := fun j hj e => by
      obtain ⟨oj, tj, q1, q2, q3, q4⟩ := so.cd j hj
      have : tj = t := by simp only [dstOf, q1] at e; rw [q3] at e; exact Option.some.inj e
      subst this
      exact flSp f (st.fl_sub f hf) (q4 f hflt (fun e => (st.g.fs f (st.fl_sub f hf)).2 (e ▸ st.cr_sub j (by rw [hcs]; exact List.mem_append_left _ hj))) (uses_of_dst ht))
    have a3 : ∀ g ∈ s.H, dstOf ops g ≠ some t := fun g hg e => by
      have := hpairX f hf g hg t e
      rw [uses_of_dst ht] at this; cases this
    exact (m5 t a3).trans ((l1 t a1).trans (k6 t a2))
  have keepC : ∀ j ∈ r.flatMap (·.C), L.getD j false = true → ∀ oj, ops[j]? = some oj → ∀ u ∈ oj.looksAt ops, look S2.tm u = look S'.tm u := by
    intro j hj hLj oj hoj u hu
    have hjc : j ∈ (s :: r).flatMap (·.C) := by rw [hcs]; exact List.mem_append_right _ hj
    have hdj := h.clo j oj hoj hLj
    have a1 : o.dst ≠ some u := fun e => by
      have := bnd_dep hoj hdj (st.g.cr j (st.cr_sub j hjc) s.c u hclt (hcdo u e) (fun e => hcCr (e ▸ st.cr_sub j hjc)) (looks_of hoj hu))
      rw [hL] at this; cases this
    have a3 : ∀ g ∈ s.H, dstOf ops g ≠ some u := fun g hg e => by
      obtain ⟨og, tg, q1, _, q2, _, q3⟩ := st.g.fl g (hHFl g hg)
      have : tg = u := by simp only [dstOf, q1] at e; rw [q2] at e; exact Option.some.inj e
      subst this
      have := bnd_dep hoj hdj (q3 j (Array.getElem?_eq_some_iff.1 hoj).1 (fun e => (st.g.fs g (hHFl g hg)).2 (e ▸ st.cr_sub j hjc)) (uses_of_look hoj hu))
      rw [hHL g hg] at this; cases this
    exact (m5 u a3).trans (l1 u a1)
  have hfitu : ∀ u, o.dst = some u → u < a.tmps.size := fun u hu => by rw [k2.size]; rw [hu] at hfit'; simpa [St.fits] using hfit'
  refine ⟨by simp [h.lsz], ?_, fun i hi => ?_, fun c hc => ?_, fun g hg => ?_, fun i oi hi hLi e he hb => ?_, fun j hj hLj => ?_, fun j b hb => ?_, fun f hf hLf => ?_⟩
  · refine ⟨step.defers, by rw [m3]; exact step.size, fun t ht => ?_, by rw [m2]; exact step.heap, by rw [m2]; exact step.evo, by rw [m4]; exact step.base, step.sub, step.rinj, step.rnew⟩
    have a3 : ∀ g ∈ s.H, dstOf ops g ≠ some t := fun g hg e => ht (.inl ⟨g, List.mem_append_right _ hg, by rw [hoth g (fun e => hcFl (e ▸ hHFl g hg))]; exact hHL g hg, e⟩)
    rw [m5 t a3, m2]
    refine step.tm t fun ⟨hid, _⟩ => ht ?_
    rcases hid with ⟨f, hf, hLf, hfd⟩ | ⟨j, hj, hLj, hjd⟩
    · exact .inl ⟨f, List.mem_append_left _ hf, by rw [hoth f (fun e => hcFl (e ▸ st.fl_sub f hf))]; exact hLf, hfd⟩
    · exact .inr ⟨j, hj, hmono j hLj, hjd⟩
  · rcases h.cov i hi with hc | hc | hc | hc
    · exact .inl (hmono i hc)
    · rw [hHs, ← List.append_assoc] at hc; exact .inr (.inl hc)
    · rw [List.map_cons, List.mem_cons] at hc
      rcases hc with rfl | hc
      · exact .inl hself
      · exact .inr (.inr (.inl hc))
    · rw [hcs, List.mem_append] at hc
      rcases hc with hc | hc
      · exact .inl (hmono i (hCL i hc))
      · exact .inr (.inr (.inr hc))
  · rw [hoth c (fun e => hSpn.1 (e ▸ hc))]; exact h.sp c (by rw [List.map_cons]; exact List.mem_cons_of_mem _ hc)
  · rw [hoth g (fun e => hcFl (by rw [← e, st.hFl, hHs]; exact List.mem_append_right _ (List.mem_append_right _ hg)))]
    exact h.flo g (by rw [hHs]; exact List.mem_append_right _ hg)
  · by_cases e' : i = s.c
    · subst e'; rw [ho] at hi; cases hi; exact hmono _ (hd e he hb)
    · rw [hoth i e'] at hLi; exact hmono _ (h.clo i oi hi hLi e he hb)
  · have hjc : j ∈ (s :: r).flatMap (·.C) := by rw [hcs]; exact List.mem_append_right _ hj
    have hjne : j ≠ s.c := fun e => hcCr (e ▸ st.cr_sub j hjc)
    rw [hoth j hjne] at hLj
    obtain ⟨oj, tj, dj, B, b, q1, q2, q3, q4, q5⟩ := k3 j hj hLj
    refine ⟨oj, tj, dj, B, b, q1, q2, q3, ?_, ?_⟩
    · rw [crea_congr (ev := fun x => strip true (S'.ev x)) (fun x hx => by show strip true _ = strip true _; rw [ev_eq (keepC j hj hLj oj q1) x hx])]
      exact q4
    · have hne : ¬ (o.dst = some tj) := fun e => by
        obtain ⟨oj', tj', r1, _, r2, r3⟩ := hcdr j hj
        rw [q1] at r1; cases r1
        rw [q2] at r2; cases r2
        exact hSpn.1 (r3 s.c hclt hjne.symm (uses_of_dst (hcdo tj e)))
      rw [put_getD hfitu, if_neg hne, m2, h1hp]
      exact q5.evo k2.heap e1
  · obtain ⟨r1, r2⟩ := k4 j b hb
    exact ⟨r1, hmono j r2⟩
  · rcases List.mem_append.1 hf with hf | hf
    · have hfne : f ≠ s.c := fun e => hcFl (e ▸ st.fl_sub f hf)
      rw [hoth f hfne] at hLf
      obtain ⟨of, tf, q1, q2, q3, _, _⟩ := st.g.fl f (st.fl_sub f hf)
      have hflt : f < ops.size := (Array.getElem?_eq_some_iff.1 q1).1
      refine (h.pend f hf hLf).move q1 q3 q2 (fun u hu => (keepF f hf hLf of q1 u hu).1) (keepD f hf hLf tf (by simp [dstOf, q1, q3]) hflt) (m3.trans (n1.trans k5)) (fun G hG k hk => ?_)
      have hF : f ∈ s.F := by
        rcases so.ff f hf with hF | hb
        · exact hF
        · have := bnd_dep ho hd hb; rw [hLf] at this; cases this
      have hag1 := agree_get hag of (pick_mem (toList_get q1) hF)
      have hg1 : vguard ops.toList S1 of = some G := by rw [vguard_eq (S := S) (fun u hu => (keepF f hf hLf of q1 u hu).2)]; exact hG
      rw [hg1] at hag1
      have hft : foot (fun x => strip G (S1.ev x)) of.op = foot (fun x => strip G (S.ev x)) of.op := foot_congr fun x hx => by rw [ev_eq (S := S) (fun u hu => (keepF f hf hLf of q1 u hu).2) x hx]
      have := sameAt_get hag1 k (by rw [hft]; exact hk)
      rw [m2]; exact this
    · exact m6 f hf

/-- Every order. -/
theorem wpAny_spine {Q : Exit → Act → World → Prop} {O : Org} {K : St → Prop} (hK : ∀ β S a w, Sim O β S a w → K S → Q .normal a w) : ∀ (fuel : Nat) (L : Array Bool) (a : Act) (w : World) (fl : List Nat) (rs : List Seg) (rb : Nat → Option Nat) (β : Map) (S : St),
    (List.range ops.size).countP (fun i => !L.getD i false) ≤ fuel → Stat ops Fl Sp Cr fl rs → MInv P ops O fl rs rb β S L a w → vsp P ops.toList rs K S → wpAny P .any ops Q fuel L a w := by
  have done : ∀ (L : Array Bool) (a : Act) (w : World) (fl : List Nat) (rs : List Seg) (rb : Nat → Option Nat) (β : Map) (S : St), Region.ready .any ops L = [] → Stat ops Fl Sp Cr fl rs → MInv P ops O fl rs rb β S L a w → vsp P ops.toList rs K S → Q .normal a w := by
    intro L a w fl rs rb β S hready st h hv
    have all : ∀ i, i < ops.size → L.getD i false = true := by
      intro i
      induction i using Nat.strongRecOn with
      | _ i ih =>
        intro hlt
        cases hl : L.getD i false with
        | true => rfl
        | false =>
          have ho : ops[i]? = some ops[i] := Array.getElem?_eq_getElem hlt
          have hmem : i ∈ Region.ready .any ops L := by
            rw [mem_ready]
            have hsz : i < L.size := by rw [h.lsz]; exact hlt
            refine ⟨by simpa [hsz] using hl, ops[i], ho, fun e he hb => ?_⟩
            have hlt' := st.g.back i _ ho e he hb
            exact ih e.on hlt' (Nat.lt_trans hlt' hlt)
          rw [hready] at hmem
          cases hmem
    cases rs with
    | cons s r =>
      have h1 := h.sp s.c (by simp)
      have hs := st.ok
      simp only [segsOk, Bool.and_eq_true] at hs
      have h2 := all s.c (seg_spec hs.1).lt
      rw [h1] at h2; cases h2
    | nil =>
      have hrb : ∀ j b, rb j ≠ some b := fun j b hb => by have := (h.rbo j b hb).1; simp at this
      have hβ : β = ⟨β.f, O.β.X⟩ := by
        obtain ⟨f, X⟩ := β
        have : X = O.β.X := by
          funext b
          exact propext ((h.core.sub b).trans ⟨fun x => x.elim id (fun ⟨j, hj⟩ => absurd hj (hrb j b)), .inl⟩)
        rw [this]
      refine hK β S a w ⟨h.core.defers, h.core.size, fun t => h.core.tm t ?_, h.core.heap, by have := h.core.evo; rw [← hβ] at this; exact this, h.core.base⟩ hv
      rintro (⟨f, hf, hL, hd⟩ | ⟨j, hj, _⟩)
      · obtain ⟨of, _, q1, _⟩ := st.g.fl f (st.fl_sub f hf)
        have := all f (Array.getElem?_eq_some_iff.1 q1).1
        rw [hL] at this; cases this
      · simp at hj
  intro fuel
  induction fuel with
  | zero =>
    intro L a w fl rs rb β S hc st h hv
    have hready : Region.ready .any ops L = [] := by
      apply List.eq_nil_iff_forall_not_mem.2
      intro j hj
      obtain ⟨h0, o, ho, _⟩ := mem_ready.1 hj
      have hlt : j < ops.size := (Array.getElem?_eq_some_iff.1 ho).1
      have : 0 < (List.range ops.size).countP (fun i => !L.getD i false) := by
        rw [List.countP_pos_iff]
        refine ⟨j, List.mem_range.2 hlt, ?_⟩
        have hsz : j < L.size := by rw [h.lsz]; exact hlt
        simp [hsz] at h0 ⊢
        exact h0
      omega
    exact ⟨hready, done L a w fl rs rb β S hready st h hv⟩
  | succ fuel ih =>
    intro L a w fl rs rb β S hc st h hv
    refine ⟨fun hready => done L a w fl rs rb β S hready st h hv, fun j hj => ?_⟩
    obtain ⟨h0, o, ho, hd⟩ := mem_ready.1 hj
    have hlt : j < ops.size := (Array.getElem?_eq_some_iff.1 ho).1
    have hsz : j < L.size := by rw [h.lsz]; exact hlt
    have hL : L.getD j false = false := by simp [hsz] at h0 ⊢; exact h0
    have hcnt : (List.range ops.size).countP (fun i => !(L.setIfInBounds j true).getD i false) ≤ fuel := by
      have : (List.range ops.size).countP (fun i => !(L.setIfInBounds j true).getD i false) < (List.range ops.size).countP (fun i => !L.getD i false) := by
        refine countP_lt (List.mem_range.2 hlt) (by rw [hL]; rfl) (by simp [hsz]) (fun i hp => ?_)
        by_cases hij : i = j
        · rw [hij, hL]; rfl
        · rw [getD_set_ne false (Ne.symm hij)] at hp; exact hp
      omega
    unfold wpOp
    rw [ho]
    simp only
    have dep : ∀ i, bnd ops j i = true → L.getD i false = true := fun i hb => bnd_dep ho hd hb
    rcases h.cov j hlt with hx | hx | hx | hx
    · rw [hL] at hx; cases hx
    · rcases List.mem_append.1 hx with hf | hf
      · exact float_step st h hf ho hL hd fun β' a' w' h' => ih _ a' w' fl rs rb β' S hcnt st h' hv
      · exfalso
        rcases segsOk_hh st.ok j hf with ⟨c, h1, h2⟩ | ⟨g, h1, h2⟩
        · have := dep c h2; rw [h.sp c h1] at this; cases this
        · have := dep g h2; rw [h.flo g h1] at this; cases this
    · cases rs with
      | nil => simp at hx
      | cons s r =>
        rw [List.map_cons, List.mem_cons] at hx
        rcases hx with rfl | hx
        · have st' : Stat ops Fl Sp Cr (fl ++ s.H) r := by
            have hs := st.ok
            simp only [segsOk, Bool.and_eq_true] at hs
            obtain ⟨dn, e1⟩ := st.hSp
            obtain ⟨dn', e2⟩ := st.hCr
            exact ⟨st.g, by rw [st.hFl, List.flatMap_cons, List.append_assoc], ⟨dn ++ [s.c], by rw [e1]; simp⟩, ⟨dn' ++ s.C, by rw [e2, List.flatMap_cons]; simp⟩, hs.2⟩
          exact spine_step st h ho hd hv fun rb' β' S' a' w' h' hv' => ih _ a' w' (fl ++ s.H) r rb' β' S' hcnt st' h' hv'
        · exfalso
          obtain ⟨c', h1, h2⟩ := segsOk_ch st.ok j hx
          have := dep c' h2; rw [h.sp c' h1] at this; cases this
    · cases rs with
      | nil => simp at hx
      | cons s r =>
        have hs := st.ok
        simp only [segsOk, Bool.and_eq_true] at hs
        rcases (seg_spec hs.1).rr j hx with hR | ⟨i, hi, hb⟩
        · have hv2 := hv
          unfold vsp at hv2
          obtain ⟨f1, f2⟩ := creasOk_get hv2.1 o (pick_mem (toList_get ho) hR)
          exact crea_step st h hx ho hL hd f1 f2 fun rb' β' a' w' h' => ih _ a' w' fl (s :: r) rb' β' S hcnt st h' hv
        · exfalso
          have := dep i hb
          rcases List.mem_append.1 hi with hi | hi
          · rw [h.sp i hi] at this; cases this
          · rw [h.flo i hi] at this; cases this

/-- A region with a spine, in every order. -/
theorem vspine_any {Q : Exit → St → Prop} {S : St} (H0 : List Nat) (segs : List Seg) (hok : spineOk ops H0 segs = true) (h : vrun P ops.toList (pick ops.toList H0) (vsp P ops.toList segs (Q .normal)) S) {O : Org} {β : Map} {a : Act} {w : World} (hs : Sim O β S a w) :
    wpAny P .any ops (lift O Q) ops.size (Array.replicate ops.size false) a { w with drawn := w.drawn + 1 } := by
  simp only [spineOk, Bool.and_eq_true] at hok
  obtain ⟨⟨hg, hsg⟩, _⟩ := hok
  have g := glob_spec hg
  have hpair := inOrder_pair g (fun f hf => hf) g.fo g.nf
  rw [List.pairwise_append] at hpair
  obtain ⟨S2, m1, m2, m3, m4, m5, m6⟩ := hoist_all (fun f hf => by obtain ⟨of, tf, q1, q2, q3, q4, _⟩ := g.fl f (List.mem_append_left _ hf); exact ⟨of, tf, q1, q2, q3, q4⟩) hpair.1 h
  have e : Evo w β S.hp w.drew β S.hp := evo_drew w β S.hp
  have hfalse : ∀ i, (Array.replicate ops.size false).getD i false = false := fun i => by
    by_cases hi : i < ops.size <;> simp [hi]
  have st : Stat ops (H0 ++ segs.flatMap (·.H)) (segs.map (·.c)) (segs.flatMap (·.C)) H0 segs := ⟨g, rfl, ⟨[], rfl⟩, ⟨[], rfl⟩, hsg⟩
  refine wpAny_spine (O := O) (Q := lift O Q) (fun β S a w hs hk => ⟨β, S, hs, hk⟩) ops.size (Array.replicate ops.size false) a _ H0 segs (fun _ => none) β S2 ?_ st ?_ m1
  · have := List.countP_le_length (p := fun i => !(Array.replicate ops.size false).getD i false) (l := List.range ops.size)
    simpa using this
  · refine ⟨by simp, ⟨hs.defers, by rw [m3]; exact hs.size, fun t ht => ?_, by rw [m2]; exact hs.heap.drew, ?_, by rw [m4]; exact hs.base, fun b => ?_, fun i j b hi => (by cases hi), fun j b hj => (by cases hj)⟩, fun i hi => ?_, fun c _ => hfalse c, fun f _ => hfalse f, fun i o _ hl => ?_, fun j _ hl => ?_, fun j b hb => (by cases hb), fun f hf _ => m6 f hf⟩
    · have a3 : ∀ f ∈ H0, dstOf ops f ≠ some t := fun f hf e => ht (.inl ⟨f, hf, hfalse f, e⟩)
      rw [m5 t a3, m2]
      exact (hs.tm t).mono e
    · rw [m2]
      have ev := hs.evo.trans e
      have hX : β.X = O.β.X := ev.X
      have := ev.reX O.β.X
      exact this
    · have hX : β.X = O.β.X := hs.evo.X
      rw [hX]
      exact ⟨.inl, fun x => x.elim (fun h => h) (fun ⟨j, hj⟩ => (by cases hj))⟩
    · rcases g.all i hi with hx | hx | hx
      · exact .inr (.inl hx)
      · exact .inr (.inr (.inl hx))
      · exact .inr (.inr (.inr hx))
    · rw [hfalse] at hl; cases hl
    · rw [hfalse] at hl; cases hl

/-- A REGION THAT DRAWS ITS ORDER, with a spine. -/
theorem vspine {id : Nat} {Q : Exit → St → Prop} {S : St} (H0 : List Nat) (segs : List Seg) (hm : P.follows .mixedOrders = true) (hok : spineOk ops H0 segs = true) (h : vrun P ops.toList (pick ops.toList H0) (vsp P ops.toList segs (Q .normal)) S) : VDraw P id ops Q S :=
  fun _ _ _ _ hs => wp_region_any hm (vspine_any H0 segs hok h hs)

end
end Go.V

/-
  V, part 26: how the spine's run is reckoned.
-/
namespace Go.V

def pickO (o : Option Oper) (l : List Oper) : List Oper := match o with | some o => o :: l | none => l
def vspR (P : Program) (all : List Oper) (l : List Oper) (K : St → Prop) (S : St) : Prop := vrun P all l K S
def vspK (P : Program) (all : List Oper) (F H : List Nat) (r : List Seg) (K : St → Prop) (S S1 : St) : Prop := agree all S S1 (pick all F) ∧ vspR P all (pick all H) (vsp P all r K) S1
def vspC (A B : Prop) : Prop := A ∧ B
def creaM (x : Option (DV × Heap)) : Option (DV × Blk) := match x with
  | some (.ptr 0 0, [B]) => some (.ptr 0 0, B)
  | some (.own 0 sz 0 n, [B]) => some (.own 0 sz 0 n, B)
  | _ => none
def creaOk2 (x : Option (DV × Blk)) (l : List DV) : Prop := match x with
  | some (_, B) => B.live = true ∧ 0 < B.cells.length ∧ DV.nums.go (fun _ => false) B.cells = true ∧ DV.nums.go (fun _ => false) l = true
  | none => False

theorem pick_nil {all : List Oper} : pick all [] = [] := rfl
theorem pick_cons {all : List Oper} {i : Nat} {r : List Nat} : pick all (i :: r) = pickO all[i]? (pick all r) := by
  cases h : all[i]? <;> simp [pick, pickO, h]
theorem pickO_some {o : Oper} {l : List Oper} : pickO (some o) l = o :: l := rfl
theorem vsp_nil {P : Program} {all : List Oper} {K : St → Prop} {S : St} : vsp P all [] K S = K S := by rw [vsp]
theorem vsp_cons {P : Program} {all : List Oper} {R C F H : List Nat} {c : Nat} {r : List Seg} {K : St → Prop} {S : St} : vsp P all (⟨R, C, c, F, H⟩ :: r) K S = vspC (creasOk P S (pick all R)) (vspR P all (pick all (C ++ [c])) (vspK P all F H r K S) S) := by
  rw [vsp]; rfl
theorem vspC_true {B : Prop} : vspC True B = B := by simp [vspC]
theorem vspR_eq {P : Program} {all l : List Oper} {K : St → Prop} {S : St} : vspR P all l K S = vrun P all l K S := rfl
theorem vspK_eq {P : Program} {all : List Oper} {F H : List Nat} {r : List Seg} {K : St → Prop} {S S1 : St} : vspK P all F H r K S S1 = vspC (agree all S S1 (pick all F)) (vspR P all (pick all H) (vsp P all r K) S1) := rfl
@[congr] theorem vspC_congr {A A' B : Prop} (h : A = A') : vspC A B = vspC A' B := by rw [h]
@[congr] theorem vspR_congr (P : Program) (all : List Oper) (K : St → Prop) (S : St) {l l' : List Oper} (h : l = l') : vspR P all l K S = vspR P all l' K S := by rw [h]
@[congr] theorem vsp_congr (P : Program) (all : List Oper) (segs : List Seg) (K : St → Prop) (S : St) : vsp P all segs K S = vsp P all segs K S := rfl
@[congr] theorem vspK_congr (P : Program) (all : List Oper) (F H : List Nat) (r : List Seg) (K : St → Prop) (S S1 : St) : vspK P all F H r K S S1 = vspK P all F H r K S S1 := rfl
theorem creas_nil {P : Program} {S : St} : creasOk P S [] = True := rfl
theorem creas_cons {P : Program} {S : St} {o : Oper} {r : List Oper} : creasOk P S (o :: r) = ((S.fits o.dst = true ∧ creaOk P (evG true S) o.op) ∧ creasOk P S r) := rfl
theorem creaOk_eq {P : Program} {ev : Operand → DV} {o : Op} : creaOk P ev o = creaOk2 (creaM (vop P ev [] o)) (o.operands.toList.map ev) := by
  unfold creaOk creaOk2 crea creaM; rfl
theorem creaM_ptr {B : Blk} : creaM (some (.ptr 0 0, [B])) = some (.ptr 0 0, B) := rfl
theorem creaM_own {sz n : Nat} {B : Blk} : creaM (some (.own 0 sz 0 n, [B])) = some (.own 0 sz 0 n, B) := rfl
theorem creaOk2_some {d : DV} {T : TypeId} {b : Bool} {cs l : List DV} : creaOk2 (some (d, ⟨T, b, cs⟩)) l = (b = true ∧ 0 < cs.length ∧ DV.nums.go (fun _ => false) cs = true ∧ DV.nums.go (fun _ => false) l = true) := rfl
theorem agree_nil {all : List Oper} {S S1 : St} : agree all S S1 [] = True := rfl
theorem agree_cons {all : List Oper} {S S1 : St} {o : Oper} {r : List Oper} : agree all S S1 (o :: r) = (agree1 S S1 o (vguard all S1 o) ∧ agree all S S1 r) := rfl
theorem agree1_some {S S1 : St} {o : Oper} {G : Bool} : agree1 S S1 o (some G) = sameAt S.hp S1.hp (foot (evG G S1) o.op).1 := rfl
theorem sameAt_nil {hp hp1 : Heap} : sameAt hp hp1 [] = True := rfl
theorem sameAt_cons {hp hp1 : Heap} {k : Nat} {r : List Nat} : sameAt hp hp1 (k :: r) = (hp1[k]? = hp[k]? ∧ sameAt hp hp1 r) := rfl
end Go.V

/-
  V, part 27: lists of plain things, as the cells of a block and as slices that nobody writes.
-/
namespace Go.V

/-- A kind of element: its cells, all plain, sz of them. -/
structure Enc (α : Type) where
  sz : Nat
  enc : α → List PV
  hsz : 0 < sz
  hlen : ∀ a, (enc a).length = sz

/-- The cells of a block that holds a list. -/
def cells {α : Type} (e : Enc α) (l : List α) : List DV := (l.map fun a => (e.enc a).map DV.pv).flatten
/-- The slice that nobody writes. -/
def fz {α : Type} (e : Enc α) (l : List α) : List (List PV) := l.map e.enc

def encI : Enc Int := ⟨1, fun n => [.lit (.int .i64 n)], Nat.one_pos, fun _ => rfl⟩
def encU : Enc UInt8 := ⟨1, fun b => [.lit (.int .u8 b.toNat)], Nat.one_pos, fun _ => rfl⟩

section
variable {α : Type} (e : Enc α)

theorem fz_len (l : List α) : (fz e l).length = l.length := by simp [fz]
theorem fz_get (l : List α) (i : Nat) (h : i < l.length) : (fz e l)[i]? = some (e.enc l[i]) := by
  rw [fz, List.getElem?_map, List.getElem?_eq_getElem h]; rfl
theorem fz_take (l : List α) (n : Nat) : (fz e l).take n = fz e (l.take n) := by simp [fz, List.map_take]
theorem fz_drop (l : List α) (n : Nat) : (fz e l).drop n = fz e (l.drop n) := by simp [fz, List.map_drop]
theorem fz_flat (l : List α) : ((fz e l).flatten).map DV.pv = cells e l := by
  induction l with
  | nil => rfl
  | cons a r ih => simp only [fz, cells, List.map_cons, List.flatten_cons, List.map_append] at ih ⊢; rw [ih]
theorem fz_has (l : List α) (h : 0 < l.length) : (fz e l)[0]?.map List.length = some e.sz := by
  rw [fz_get e l 0 h]; simp [e.hlen]

theorem cells_cons (a : α) (l : List α) : cells e (a :: l) = (e.enc a).map DV.pv ++ cells e l := rfl
theorem cells_app (a b : List α) : cells e (a ++ b) = cells e a ++ cells e b := by simp [cells]
theorem cells_len (l : List α) : (cells e l).length = l.length * e.sz := by
  induction l with
  | nil => simp [cells]
  | cons a r ih => rw [cells_cons, List.length_append, ih, List.length_map, e.hlen, List.length_cons, Nat.add_mul]; omega
theorem go_app {p : Nat → Bool} {a b : List DV} (ha : DV.nums.go p a = true) (hb : DV.nums.go p b = true) : DV.nums.go p (a ++ b) = true := by
  induction a with
  | nil => exact hb
  | cons x r ih => simp only [List.cons_append, DV.nums.go, Bool.and_eq_true] at ha ⊢; exact ⟨ha.1, ih ha.2⟩
theorem pvs_nums (p : Nat → Bool) : ∀ (l : List PV), DV.nums.go p (l.map DV.pv) = true
  | [] => rfl
  | _ :: r => pvs_nums p r
theorem pvs_refs (n : Nat) : ∀ (l : List PV), DV.refs.go n (l.map DV.pv) = true
  | [] => rfl
  | _ :: r => pvs_refs n r
theorem cells_pvs (l : List α) : cells e l = ((l.map e.enc).flatten).map DV.pv := by
  induction l with
  | nil => rfl
  | cons a r ih => rw [cells_cons, List.map_cons, List.flatten_cons, List.map_append, ih]
theorem cells_nums (p : Nat → Bool) (l : List α) : DV.nums.go p (cells e l) = true := by rw [cells_pvs]; exact pvs_nums p _
theorem cells_refs (n : Nat) (l : List α) : DV.refs.go n (cells e l) = true := by rw [cells_pvs]; exact pvs_refs n _
theorem pvs_frzP (n : Nat) (hp : Heap) (f : Nat) : ∀ (l : List PV), allSome ((l.map DV.pv).map (frzP n hp f)) = some l
  | [] => rfl
  | a :: r => by
    have := pvs_frzP n hp f r
    have h1 : frzP n hp f (.pv a) = some a := by cases f <;> rfl
    simp only [List.map_cons, allSome, h1] at this ⊢
    rw [this]; rfl
theorem cells_at (l : List α) (i : Nat) (h : i < l.length) : ((cells e l).drop (i * e.sz)).take e.sz = (e.enc l[i]).map DV.pv := by
  induction l generalizing i with
  | nil => simp at h
  | cons a r ih =>
    have ha : ((e.enc a).map DV.pv).length = e.sz := by rw [List.length_map, e.hlen]
    cases i with
    | zero => rw [Nat.zero_mul, List.drop_zero, cells_cons, List.take_left' ha]; rfl
    | succ i =>
      have hi : i < r.length := by simpa using h
      rw [cells_cons, Nat.add_mul, Nat.one_mul, Nat.add_comm, ← List.drop_drop, List.drop_left' ha, ih i hi]; rfl
theorem cells_take (l : List α) (n : Nat) : (cells e l).take (n * e.sz) = cells e (l.take n) := by
  induction l generalizing n with
  | nil => simp [cells]
  | cons a r ih =>
    have ha : ((e.enc a).map DV.pv).length = e.sz := by rw [List.length_map, e.hlen]
    cases n with
    | zero => simp [cells]
    | succ n => rw [cells_cons, List.take_succ_cons, cells_cons, Nat.add_mul, Nat.one_mul, Nat.add_comm, ← ha, List.take_append, Nat.add_sub_cancel_left, ha, ih, List.take_of_length_le (by omega)]
theorem cells_drop (l : List α) (n : Nat) : (cells e l).drop (n * e.sz) = cells e (l.drop n) := by
  induction l generalizing n with
  | nil => simp [cells]
  | cons a r ih =>
    have ha : ((e.enc a).map DV.pv).length = e.sz := by rw [List.length_map, e.hlen]
    cases n with
    | zero => simp
    | succ n => rw [cells_cons, List.drop_succ_cons, Nat.add_mul, Nat.one_mul, Nat.add_comm, ← List.drop_drop, List.drop_left' ha, ih]

/-- A slice of the call's own, read out. -/
theorem cells_rows (n : Nat) (hp : Heap) (f : Nat) : ∀ (l : List α), allSome ((rows e.sz l.length (cells e l)).map fun r => allSome (r.map (frzP n hp f))) = some (fz e l)
  | [] => rfl
  | a :: l => by
    have ha : ((e.enc a).map DV.pv).length = e.sz := by rw [List.length_map, e.hlen]
    have hr : rows e.sz (a :: l).length (cells e (a :: l)) = (e.enc a).map DV.pv :: rows e.sz l.length (cells e l) := by
      rw [List.length_cons, rows, cells_cons, List.take_left' ha, List.drop_left' ha]
    rw [hr, List.map_cons, pvs_frzP]
    show (allSome _).map _ = _
    rw [cells_rows n hp f l]; rfl
theorem own_frzP {n k : Nat} {hp : Heap} {T : TypeId} (hk : ¬ k < n) (l : List α) (hb : hp[k]? = some ⟨T, true, cells e l⟩) (f : Nat) : frzP n hp (f + 1) (.own k e.sz 0 l.length) = some (.sl (fz e l)) := by
  have hbc : blkCells hp k = some (cells e l) := by simp [blkCells, hb]
  rw [frzP, if_neg hk, hbc]
  show (if 0 + l.length * e.sz ≤ (cells e l).length ∧ 0 < e.sz then _ else _) = _
  rw [if_pos ⟨by rw [cells_len]; omega, e.hsz⟩, List.drop_zero, cells_rows]; rfl
theorem own_frz {n k : Nat} {hp : Heap} {T : TypeId} (hk : ¬ k < n) (l : List α) (hb : hp[k]? = some ⟨T, true, cells e l⟩) : frz1 n hp (.own k e.sz 0 l.length) = some (.pv (.sl (fz e l))) := by
  rw [frz1, if_neg hk, own_frzP e hk l hb]; rfl
end

/-! ### Elements of one cell -/
theorem cellsI (l : List Int) : cells encI l = l.map (DV.int .i64) := by
  induction l with
  | nil => rfl
  | cons a r ih => rw [cells_cons, ih]; rfl
theorem cellsU (l : List UInt8) : cells encU l = l.map fun b => .pv (.lit (.int .u8 b.toNat)) := by
  induction l with
  | nil => rfl
  | cons a r ih => rw [cells_cons, ih]; rfl
theorem cellsI_len (l : List Int) : (cells encI l).length = l.length := by rw [cellsI, List.length_map]
theorem cellsU_len (l : List UInt8) : (cells encU l).length = l.length := by rw [cellsU, List.length_map]
theorem cellsI_get (l : List Int) (i : Nat) (h : i < l.length) : (cells encI l)[i]? = some (.int .i64 (l.getD i 0)) := by
  rw [cellsI, List.getElem?_map, List.getD_eq_getElem?_getD, List.getElem?_eq_getElem h]; rfl
theorem fzI_get (l : List Int) (i : Nat) (h : i < l.length) : (fz encI l)[i]? = some [.lit (.int .i64 (l.getD i 0))] := by
  rw [fz_get encI l i h, List.getD_eq_getElem?_getD, List.getElem?_eq_getElem h]; rfl
theorem fzU_get (l : List UInt8) (i : Nat) (h : i < l.length) : (fz encU l)[i]? = some [.lit (.int .u8 (l.getD i 0).toNat)] := by
  rw [fz_get encU l i h, List.getD_eq_getElem?_getD, List.getElem?_eq_getElem h]; rfl
/-! ### Reckoning with such lists -/
def frzC (n : Nat) (hp : Heap) (off sz len : Nat) (x : Option (List DV)) : Option PV := match x with
  | some cs => if off + len * sz ≤ cs.length ∧ 0 < sz then (allSome ((rows sz len (cs.drop off)).map fun r => allSome (r.map (frzP n hp 3)))).map .sl else none
  | none => none
theorem frzP_own {n k off sz len : Nat} {hp : Heap} : frzP n hp 4 (.own k sz off len) = if k < n then none else frzC n hp off sz len (blkCells hp k) := rfl
theorem frzP_pv {n f : Nat} {hp : Heap} {p : PV} : frzP n hp f (.pv p) = some p := by cases f <;> rfl
theorem frzC_cells {α : Type} (e : Enc α) {n : Nat} {hp : Heap} {len : Nat} {l : List α} (h : l.length = len) : frzC n hp 0 e.sz len (some (cells e l)) = some (.sl (fz e l)) := by
  subst h
  simp only [frzC]
  rw [if_pos ⟨by rw [cells_len]; omega, e.hsz⟩, List.drop_zero, cells_rows]; rfl
/-! ### A slice whose capacity is known is a slice -/
def PV.wk : PV → PV
  | .slc xs => .sl xs
  | p => p
def DV.wk : DV → DV
  | .pv p => .pv p.wk
  | .agg cs => .agg (go cs)
  | .tup cs => .tup (go cs)
  | d => d
where
  go : List DV → List DV
    | [] => []
    | d :: r => d.wk :: go r
theorem wk_go_map : ∀ (ds : List DV), DV.wk.go ds = ds.map DV.wk
  | [] => rfl
  | d :: r => by rw [DV.wk.go, wk_go_map r]; rfl
theorem RelP.wk {w : World} {im : Nat → Prop} {p : PV} {v : Value} (h : RelP w im p v) : RelP w im p.wk v := by
  cases h with
  | slc xs a sz val h1 h2 h3 h4 h5 => exact .sl xs a xs.length sz val (Nat.le_refl _) h1 h2 h3 h4 h5
  | lit v h => exact .lit v h
  | str l => exact .str l
  | sl xs a cap sz val h1 h2 h3 h4 h5 h6 => exact .sl xs a cap sz val h1 h2 h3 h4 h5 h6
theorem RelD.wk {w : World} {β : Map} {hp : Heap} {d : DV} {v : Value} (h : RelD w β hp d v) : RelD w β hp d.wk v := by
  induction h with
  | pv p v h => exact .pv _ _ h.wk
  | ptr k off b h hb => exact .ptr k off b h hb
  | own k sz off len cap b C T m h hb h1 h2 h3 h4 => exact .own k sz off len cap b C T m h hb h1 h2 h3 h4
  | ownc k sz off len cap b o C T m h hb h1 h2 h3 h4 h5 => exact .ownc k sz off len cap b o C T m h hb h1 h2 h3 h4 h5
  | own0 k sz a h hb ha => exact .own0 k sz a h hb ha
  | ip cs ad val h1 h2 h3 => exact .ip cs ad val h1 h2 h3
  | agg ds vs h _ ih =>
    refine .agg _ vs (by rw [wk_go_map, List.length_map]; exact h) (fun i d hd => ?_)
    rw [wk_go_map, List.getElem?_map] at hd
    obtain ⟨x, h1, h2⟩ := map_eq hd
    subst h2; exact ih i x h1
  | fn f ds es vs us h h' h1 h2 _ _ => exact .fn f ds es vs us h h' h1 h2
  | tup ds vs h _ ih =>
    refine .tup _ vs (by rw [wk_go_map, List.length_map]; exact h) (fun i d hd => ?_)
    rw [wk_go_map, List.getElem?_map] at hd
    obtain ⟨x, h1, h2⟩ := map_eq hd
    subst h2; exact ih i x h1
  | opt c d v h hf _ => exact .opt c d v h hf
  | any v => exact .any v
mutual
theorem wk_nums (p : Nat → Bool) : ∀ (d : DV), d.nums p = true → d.wk.nums p = true
  | .pv _, _ => rfl
  | .ptr _ _, h => h
  | .own _ _ _ _, h => h
  | .ownc _ _ _ _ _, h => h
  | .ip _, _ => rfl
  | .any, _ => rfl
  | .agg cs, h => by simp only [DV.nums] at h; simp only [DV.wk, DV.nums]; exact wk_nums_go p cs h
  | .tup cs, h => by simp only [DV.nums] at h; simp only [DV.wk, DV.nums]; exact wk_nums_go p cs h
  | .fn _ _ _, h => h
  | .opt _ _, h => h
theorem wk_nums_go (p : Nat → Bool) : ∀ (ds : List DV), DV.nums.go p ds = true → DV.nums.go p (DV.wk.go ds) = true
  | [], _ => rfl
  | d :: r, h => by
    simp only [DV.nums.go, Bool.and_eq_true] at h
    simp only [DV.wk.go, DV.nums.go, Bool.and_eq_true]
    exact ⟨wk_nums p d h.1, wk_nums_go p r h.2⟩
end
/-- The answer, but for capacities. -/
abbrev RetW (d : DV) : DV → Heap → Prop := fun r h' => h' = [] ∧ r.nums (fun _ => false) = true ∧ r.wk = d
theorem VCalls.unwk {P : Program} {g : FuncId} {args : List DV} {h : Heap} {d : DV} (c : VCalls P g args h (RetW d)) : VCalls P g args h (Ret d) :=
  ⟨fun w β vs hh ha => (c.run w β vs hh ha).mono fun _ _ ⟨v, r, h', β', a, b, c, e, k1, k2, k3⟩ => ⟨v, d, h', β', a, b, c, k3 ▸ e.wk, k1, k3 ▸ wk_nums _ r k2, rfl⟩⟩
theorem wk_pvs : ∀ (l : List PV), (∀ p ∈ l, p.wk = p) → DV.wk.go (l.map DV.pv) = l.map DV.pv
  | [], _ => rfl
  | a :: r, h => by simp only [List.map_cons, DV.wk.go, DV.wk]; rw [h a (by simp), wk_pvs r fun p hp => h p (by simp [hp])]
theorem wk_cells {α : Type} (e : Enc α) (l : List α) (h : ∀ a, ∀ p ∈ e.enc a, p.wk = p) : DV.wk.go (cells e l) = cells e l := by
  rw [cells_pvs]
  refine wk_pvs _ fun p hp => ?_
  obtain ⟨c, hc, hp⟩ := List.mem_flatten.1 hp
  obtain ⟨a, _, rfl⟩ := List.mem_map.1 hc
  exact h a p hp
theorem wk_I (l : List Int) : DV.wk.go (cells encI l) = cells encI l := wk_cells encI l fun a p hp => by simp [encI] at hp; subst hp; rfl
theorem ptrNo_pv {p : PV} : ptrNo (.pv p) = [] := rfl
theorem isNil_fz {α : Type} (e : Enc α) (l : List α) (h : 0 < l.length) : isNil (.pv (.sl (fz e l))) = some false := by
  cases l with
  | nil => simp at h
  | cons a r =>
    have hl := e.hlen a
    have hs := e.hsz
    simp only [fz, List.map_cons]
    cases he : e.enc a with
    | nil => rw [he] at hl; simp at hl; omega
    | cons p c => rfl
end Go.V

/-
  V, part 24: bytes turned to strings; entries of the table that give back what they get.
-/
namespace Go.V
open Go.Lib

def bts (P : Program) (S T : TypeId) : Bool := match P.underlying S, P.underlying T with
  | some (.slice e), some .string => (match P.underlying e with | some (.int .u8) => true | _ => false)
  | _, _ => false
def vcso (hp : Heap) (off len : Nat) (b : Option (List DV)) : Option (DV × Heap) := match b with
  | some cs => if off + len ≤ cs.length then match bytesOf ((cs.drop off).take len) with
    | some l => if l.length = len then some (.pv (.str l), hp) else none
    | none => none
    else none
  | none => none
theorem conv_bts {P : Program} {hp : Heap} {S T : TypeId} {k off len : Nat} (h : bts P S T = true) : vconvert P hp S T (.own k 1 off len) = vcso hp off len (blkCells hp k) := by
  unfold bts at h
  split at h
  · rename_i e hs ht
    split at h
    · rename_i he
      unfold vconvert vconvert0 vcso
      simp only [hs, ht, he, bsrc, vsrc]
      cases blkCells hp k with
      | none => rfl
      | some cs =>
        simp only [Nat.mul_one, true_and]
        by_cases hc : off + len ≤ cs.length
        · simp only [if_pos hc]
          cases hb : bytesOf ((cs.drop off).take len) with
          | none => rfl
          | some l =>
            simp only
            by_cases hl : l.length = len
            · simp only [if_pos hl]; rfl
            · simp only [if_neg hl]; rfl
        · simp only [if_neg hc]; rfl
    · cases h
  · cases h
theorem bytesEx_cells (l : List UInt8) : bytesEx (cells encU l) = some l := by rw [cellsU]; exact bytesEx_map l

/-- internal/abi.NoEscape gives back what it gets. -/
theorem vcalls_same {P : Program} {g : FuncId} {fn : Func} {x : DV} {hp : Heap} (hf : P.funcs[g]? = some fn) (hname : (fn.name == "runtime.NumGoroutine") = false) (hb : fn.body.isNone = true) (hn : Extern.findNext fn = none) (he : Extern.find fn = some Extern.AbiNoEscape.same) :
    VCalls P g [x] hp fun r h' => r = x ∧ h' = hp := by
  refine ⟨fun w β vs hh ha => ?_⟩
  have hvs : vs = #[vs.getD 0 undef] := by
    have h1 := ha.1
    simp at h1
    apply Array.ext
    · simp; omega
    · intro i h2 h3
      simp at h3
      subst h3
      simp [Array.getElem?_eq_getElem h2]
  refine .inr ⟨fn, vs.getD 0 undef, w, hf, hb, ?_, vs.getD 0 undef, x, hp, β, rfl, Evo.refl w β hp, hh, ha.2 0 x rfl, rfl, rfl⟩
  rw [run_callFunc_extern hf hname hb hn he, hvs]
  rfl

theorem results_nil {P : Program} {S : St} : vresults P S [] = some (.tup []) := rfl
theorem sdata_own {k sz off len : Nat} (h : 0 < len) : vsdata (.own k sz off len) = some (.ptr k off) := by simp [vsdata, h]
theorem vcso_one {hp : Heap} {n : Int} : vcso hp 0 1 (some [.pv (.lit (.int .u8 n))]) = some (.pv (.str [UInt8.ofNat n.toNat]), hp) := rfl
theorem ofConst_ptr {a : Option Addr} : ofConst (.pointer a) = .pv (.lit (.pointer a)) := rfl
theorem ofConst_nilIface : ofConst .nilIface = .pv (.lit .nilIface) := rfl
theorem ptrEq_eql {P : Program} {T : TypeId} {b : Bool} (h : isPtr P T = true) : vptrEq P .eql T b = some (.bool b) := by simp [vptrEq, h]
theorem ptrEq_neq {P : Program} {T : TypeId} {b : Bool} (h : isPtr P T = true) : vptrEq P .neq T b = some (.bool (!b)) := by simp [vptrEq, h]
def toU (P : Program) (S T : TypeId) : Bool := match P.underlying S, P.underlying T with
  | some (.pointer t), some .unsafePointer => match P.info? t with | some j => j.size != 0 | none => false
  | _, _ => false
def frU (P : Program) (S T u : TypeId) : Bool := match P.underlying S, P.underlying T with
  | some .unsafePointer, some (.pointer u') => u' == u && (P.info? u).isSome && P.cellsOf u != 0
  | _, _ => false
theorem convPtr_to {P : Program} {hp : Heap} {S T : TypeId} {k off : Nat} (h : toU P S T = true) : vconvPtr P hp S T k off = match hp[k]? with
    | some B => if B.live = true ∧ off < B.cells.length then some (.ptr k off) else none
    | none => none := by
  unfold toU at h
  split at h
  · rename_i t hs ht
    unfold vconvPtr
    split at h
    · rename_i j hj
      rw [hs, ht]
      cases hp[k]? with
      | none => rfl
      | some B =>
        have : j.size ≠ 0 := by simpa using h
        simp [this, hj]
    · cases h
  · cases h
theorem convPtr_from {P : Program} {hp : Heap} {S T u : TypeId} {k : Nat} (h : frU P S T u = true) : vconvPtr P hp S T k 0 = match hp[k]? with
    | some B => if B.live = true ∧ B.ty = u ∧ P.cellsOf u ≤ B.cells.length then some (.ptr k 0) else none
    | none => none := by
  unfold frU at h
  split at h
  · rename_i t hs ht
    unfold vconvPtr
    rw [hs, ht]
    simp only [Bool.and_eq_true, beq_iff_eq, bne_iff_ne] at h
    obtain ⟨⟨rfl, h2⟩, h3⟩ := h
    obtain ⟨j, hj⟩ := Option.isSome_iff_exists.1 h2
    cases hp[k]? with
    | none => rfl
    | some B => simp [h3, hj]
  · cases h
def ustrOk (P : Program) (pt e : TypeId) : Bool := match P.underlying pt with
  | some (.pointer e') => e' == e && P.cellsOf e == 1
  | _ => false
theorem ustr_eq {P : Program} {hp : Heap} {pt e : TypeId} {k : Nat} {n : Int} (h : ustrOk P pt e = true) {l : List UInt8} (hk : hp[k]? = some ⟨e, true, cells encU l⟩) (hn : n = l.length) (h0 : 0 < l.length) (h1 : l.length ≤ 9223372036854775807) :
    vustr P hp pt k n = some (.pv (.str l), kill hp k) := by
  unfold ustrOk at h
  split at h
  · rename_i e' hu
    simp only [Bool.and_eq_true, beq_iff_eq] at h
    obtain ⟨rfl, h3⟩ := h
    subst hn
    unfold vustr
    rw [hu, hk]
    have ht : (cells encU l).take (l.length : Int).toNat = cells encU l := by rw [List.take_of_length_le]; rw [cellsU_len]; simp
    simp only [ht, bytesEx_cells]
    rw [if_pos]
    refine ⟨trivial, trivial, h3, by omega, by omega, by rw [cellsU_len]; simp⟩
  · cases h
end Go.V

/-
  V, part 31: a region's edges closed, so that a chain may run through operations that wait for one another by others.
-/
namespace Go.V

def aft (o : Oper) (l : List Nat) : Oper := { o with after := (o.after.toList ++ l.map fun i => (⟨i, .data⟩ : Edge)).toArray }
def tclL (D : List (List Nat)) : Nat → List Oper → List Oper
  | _, [] => []
  | j, o :: r => aft o (D.getD j []) :: tclL D (j + 1) r
def tcl (ops : Array Oper) (D : List (List Nat)) : Array Oper := (tclL D 0 ops.toList).toArray
/-- What is added is implied. -/
def dOk (ops : Array Oper) (D : List (List Nat)) : Bool :=
  (List.range ops.size).all fun j => (D.getD j []).all fun i => bnd ops j i || (List.range ops.size).any fun m => bnd ops j m && (D.getD m []).contains i

theorem tclL_get (D : List (List Nat)) : ∀ (l : List Oper) (j i : Nat), (tclL D j l)[i]? = l[i]?.map fun o => aft o (D.getD (j + i) [])
  | [], j, i => by simp [tclL]
  | o :: r, j, 0 => by simp [tclL]
  | o :: r, j, i + 1 => by
    simp only [tclL, List.getElem?_cons_succ]
    rw [tclL_get D r (j + 1) i, Nat.add_right_comm]; rfl
theorem tcl_get (ops : Array Oper) (D : List (List Nat)) (i : Nat) : (tcl ops D)[i]? = ops[i]?.map fun o => aft o (D.getD i []) := by
  have := tclL_get D ops.toList 0 i
  simpa [tcl] using this
theorem tclL_len (D : List (List Nat)) : ∀ (l : List Oper) (j : Nat), (tclL D j l).length = l.length
  | [], _ => rfl
  | o :: r, j => by simp [tclL, tclL_len D r]
theorem tcl_size (ops : Array Oper) (D : List (List Nat)) : (tcl ops D).size = ops.size := by simp [tcl, tclL_len]

section
variable {P : Program} {ops : Array Oper} {D : List (List Nat)} {Q : Exit → Act → World → Prop}

theorem tcl_dst (i : Nat) : ((tcl ops D)[i]?).bind (·.dst) = (ops[i]?).bind (·.dst) := by
  rw [tcl_get]; cases ops[i]? <;> rfl
theorem tcl_yielded (tmps : Array Value) : yielded (tcl ops D) tmps = yielded ops tmps := by
  funext j
  unfold yielded
  rw [tcl_dst]

theorem tcl_wpOp {i : Nat} {K : Act → World → Prop} {a : Act} {w : World} (h : wpOp P (tcl ops D) Q i K a w) : wpOp P ops Q i K a w := by
  unfold wpOp at h ⊢
  rw [tcl_get] at h
  cases ho : ops[i]? with
  | none => simpa [ho] using h
  | some o =>
    simp only [ho, Option.map_some] at h ⊢
    rw [tcl_yielded] at h
    exact h

def Cl (D : List (List Nat)) (L : Array Bool) : Prop := ∀ j, j < L.size → L.getD j false = true → ∀ i ∈ D.getD j [], L.getD i false = true

theorem tcl_ready (hd : dOk ops D = true) {L : Array Bool} (hs : L.size = ops.size) (hc : Cl D L) (i : Nat) (h : i ∈ Region.ready .any ops L) : i ∈ Region.ready .any (tcl ops D) L ∧ ∀ m ∈ D.getD i [], L.getD m false = true := by
  obtain ⟨h0, o, ho, hdep⟩ := mem_ready.1 h
  have hlt : i < ops.size := (Array.getElem?_eq_some_iff.1 ho).1
  have key : ∀ m ∈ D.getD i [], L.getD m false = true := by
    intro m hm
    have h1 := List.all_eq_true.1 hd i (List.mem_range.2 hlt)
    have h2 := List.all_eq_true.1 h1 m hm
    rw [Bool.or_eq_true] at h2
    have dep : ∀ x, bnd ops i x = true → L.getD x false = true := by
      intro x hx
      unfold bnd at hx
      rw [ho] at hx
      simp only [List.any_eq_true, Bool.and_eq_true, beq_iff_eq] at hx
      obtain ⟨e, he, hb, rfl⟩ := hx
      exact hdep e (by simpa using he) hb
    rcases h2 with h2 | h2
    · exact dep m h2
    · obtain ⟨x, hx, h3⟩ := List.any_eq_true.1 h2
      rw [Bool.and_eq_true] at h3
      exact hc x (by rw [hs]; exact List.mem_range.1 hx) (dep x h3.1) m (by simpa using h3.2)
  refine ⟨mem_ready.2 ⟨h0, aft o (D.getD i []), by rw [tcl_get, ho]; rfl, fun e he hb => ?_⟩, key⟩
  simp only [aft, List.mem_toArray, List.mem_append, List.mem_map] at he
  rcases he with he | ⟨m, hm, rfl⟩
  · exact hdep e (by simpa using he) hb
  · exact key m hm

theorem tcl_ready_nil {L : Array Bool} (hs : L.size = ops.size) (hd : dOk ops D = true) (hc : Cl D L) : (Region.ready .any ops L = [] ↔ Region.ready .any (tcl ops D) L = []) := by
  constructor
  · intro h
    apply List.eq_nil_iff_forall_not_mem.2
    intro j hj
    obtain ⟨h0, o, ho, hdep⟩ := mem_ready.1 hj
    rw [tcl_get] at ho
    cases hj' : ops[j]? with
    | none => rw [hj'] at ho; cases ho
    | some o' =>
      rw [hj'] at ho
      simp only [Option.map_some, Option.some.injEq] at ho
      subst ho
      have : j ∈ Region.ready .any ops L := mem_ready.2 ⟨h0, o', hj', fun e he hb => hdep e (by simp only [aft, List.mem_toArray, List.mem_append]; exact .inl (by simpa using he)) hb⟩
      rw [h] at this; cases this
  · intro h
    apply List.eq_nil_iff_forall_not_mem.2
    intro j hj
    have := (tcl_ready hd hs hc j hj).1
    rw [h] at this; cases this

theorem tcl_wpAny (hd : dOk ops D = true) : ∀ (fuel : Nat) (L : Array Bool) (a : Act) (w : World), L.size = ops.size → Cl D L → wpAny P .any (tcl ops D) Q fuel L a w → wpAny P .any ops Q fuel L a w
  | 0, L, a, w, hs, hc, h => ⟨(tcl_ready_nil hs hd hc).2 h.1, h.2⟩
  | fuel + 1, L, a, w, hs, hc, h => by
    refine ⟨fun hr => h.1 ((tcl_ready_nil hs hd hc).1 hr), fun i hi => ?_⟩
    obtain ⟨h1, h2⟩ := tcl_ready hd hs hc i hi
    refine wpOp_mono (fun a w hw => tcl_wpAny hd fuel _ a w (by simpa using hs) ?_ hw) (tcl_wpOp (h.2 i h1))
    intro j hj hl m hm
    by_cases hji : j = i
    · subst hji
      have := h2 m hm
      by_cases hmj : m = j
      · subst hmj; exact hl
      · rw [getD_set_ne false (Ne.symm hmj)]; exact this
    · rw [getD_set_ne false (Ne.symm hji)] at hl
      have := hc j (by simpa using hj) hl m hm
      by_cases hmi : m = i
      · subst hmi
        have hlt : m < L.size := by
          rcases Nat.lt_or_ge m L.size with h | h
          · exact h
          · simp [h] at this
        simp [hlt]
      · rw [getD_set_ne false (Ne.symm hmi)]; exact this

/-- The same operations, but for their edges. -/
inductive SameL : List Oper → List Oper → Prop
  | nil : SameL [] []
  | cons (o : Oper) (l : List Nat) {r r' : List Oper} : SameL r r' → SameL (aft o l :: r) (o :: r')
theorem pick_same : ∀ (l : List Nat), SameL (pick (tcl ops D).toList l) (pick ops.toList l)
  | [] => .nil
  | i :: r => by
    have h : (tcl ops D).toList[i]? = (ops[i]?).map fun o => aft o (D.getD i []) := by
      have := tcl_get ops D i
      simpa using this
    have h' : ops.toList[i]? = ops[i]? := by simp
    rw [pick, pick, h, h']
    cases ops[i]? with
    | none => exact pick_same r
    | some o => exact .cons o _ (pick_same r)
theorem tcl_vguard {S : St} {o : Oper} {l : List Nat} : vguard (tcl ops D).toList S (aft o l) = vguard ops.toList S o := by
  have key : ∀ j : Nat, (tcl ops D).toList[j]?.bind (·.dst) = ops.toList[j]?.bind (·.dst) := fun j => by
    have := tcl_dst (ops := ops) (D := D) j
    simpa using this
  unfold vguard
  have e : (aft o l).guard = o.guard := rfl
  rw [e]
  simp only [key]
theorem tcl_vrun : ∀ {l' l : List Oper}, SameL l' l → ∀ {K K' : St → Prop} {S : St}, (∀ S, K S → K' S) → vrun P ops.toList l K S → vrun P (tcl ops D).toList l' K' S := by
  intro l' l hs
  induction hs with
  | nil => intro K K' S hk h; exact hk S h
  | cons o x _ ih =>
    intro K K' S hk h
    unfold vrun at h ⊢
    rw [tcl_vguard]
    refine ⟨h.1, ?_⟩
    have h2 := h.2
    have e1 : (aft o x).op = o.op := rfl
    have e2 : (aft o x).guard = o.guard := rfl
    have e3 : (aft o x).dst = o.dst := rfl
    rw [e1, e2, e3]
    clear h
    generalize vguard ops.toList S o = gd at h2 ⊢
    split at h2
    · exact h2.elim
    · exact ih hk h2
    · split at h2
      · rename_i g args hc
        exact h2.mono fun r h' q => ih hk q
      · split at h2
        · rename_i d hp' hv
          exact ih hk h2
        · exact h2.elim
theorem tcl_agree {S S1 : St} : ∀ {l' l : List Oper}, SameL l' l → agree ops.toList S S1 l → agree (tcl ops D).toList S S1 l' := by
  intro l' l hs
  induction hs with
  | nil => intro h; exact h
  | cons o x _ ih =>
    intro h
    refine ⟨?_, ih h.2⟩
    rw [tcl_vguard]
    exact h.1
theorem tcl_creas {S : St} : ∀ {l' l : List Oper}, SameL l' l → creasOk P S l → creasOk P S l' := by
  intro l' l hs
  induction hs with
  | nil => intro h; exact h
  | cons o x _ ih => intro h; exact ⟨h.1, ih h.2⟩
theorem tcl_vsp {K : St → Prop} : ∀ {segs : List Seg} {S : St}, vsp P ops.toList segs K S → vsp P (tcl ops D).toList segs K S
  | [], S, h => h
  | s :: r, S, h => by
    unfold vsp at h ⊢
    exact ⟨tcl_creas (pick_same _) h.1, tcl_vrun (pick_same _) (fun S1 ⟨a, b⟩ => ⟨tcl_agree (pick_same _) a, tcl_vrun (pick_same _) (fun S h => tcl_vsp h) b⟩) h.2⟩

end

/-- A region that draws its order, with a spine whose edges are closed by D. -/
theorem vspineT {P : Program} {ops : Array Oper} {id : Nat} {Q : Exit → St → Prop} {S : St} (D : List (List Nat)) (H0 : List Nat) (segs : List Seg) (hm : P.follows .mixedOrders = true) (hd : dOk ops D = true) (hok : spineOk (tcl ops D) H0 segs = true)
    (h : vrun P ops.toList (pick ops.toList H0) (vsp P ops.toList segs (Q .normal)) S) : VDraw P id ops Q S := by
  have h' : vrun P (tcl ops D).toList (pick (tcl ops D).toList H0) (vsp P (tcl ops D).toList segs (Q .normal)) S := tcl_vrun (pick_same _) (fun S h => tcl_vsp h) h
  intro O β a w hs
  have hw := vspine_any (ops := tcl ops D) H0 segs hok h' hs
  rw [tcl_size] at hw
  refine wp_region_any hm (tcl_wpAny hd _ _ _ _ (by simp) (fun j _ hl => ?_) hw)
  by_cases hj : j < ops.size <;> simp [hj] at hl
end Go.V

/-
  V, part 30: lists of strings; texts of numbers that are drawn.
-/
namespace Go.V
def encS : Enc (List UInt8) := ⟨1, fun s => [.str s], Nat.one_pos, fun _ => rfl⟩
/-- Codes: the numbers, and how many are used. -/
structure C where
  l : List UInt8
  at_ : Nat
  ha : at_ ≤ l.length
  hl : l.length ≤ 1000000
def cc (c : C) : List DV := [.pv (.sl (fz encU c.l)), .int .i64 c.at_]
theorem cc_nums (c : C) : DV.nums.go (fun _ => false) (cc c) = true := rfl
theorem tmod_lt' (x n : Nat) (h : 1 ≤ n) : ∃ y : Nat, (x : Int).tmod n = y ∧ y < n := ⟨x % n, by rw [Int.ofNat_tmod], Nat.mod_lt _ h⟩
end Go.V

/-
  V, part 32: code in parts: what a part leaves may be forgotten before the next is reckoned.
-/
namespace Go.V

theorem vcalls_dropW {P : Program} {g : FuncId} {args : List DV} {h : Heap} {R : DV → Heap → Prop} {fn : Func} {c : Code} (hf : P.funcs[g]? = some fn) (hb : fn.body = some c) (hname : (fn.name == "runtime.NumGoroutine") = false) (hn : args.length ≤ fn.ntmps)
    (hc : VWp P c (vpost P fn.results.toList h.length R) ⟨fn.ntmps, h.length, enum 0 args, h⟩) : VCalls P g args h R := by
  refine vcalls_ofW hf hb hname hn (fun e S hq => ?_) hc
  unfold vpost at hq
  split at hq
  · split at hq
    · rename_i d hd; exact ⟨.inl rfl, d, hd, .inl fun _ => hq⟩
    · exact hq.elim
  · split at hq
    · rename_i d hd; exact ⟨.inr rfl, d, hd, .inl fun _ => hq⟩
    · exact hq.elim
  · exact hq.elim

theorem VWp.weak {P : Program} {c : Code} {Q : Exit → St → Prop} {S S' : St} (h : VWp P c Q S') (hw : Weak S S') : VWp P c Q S := fun O _ a w hs =>
  let ⟨_, h'⟩ := hs.weak hw
  h O _ a w h'

def bodyc (f : Func) : Code := match f.body with | some c => c | none => .skip
end Go.V

/-
  V, part 34: calls with slices of the call's own whose room is looked at; slices.overlaps; a result that gets a number of its own.
-/
namespace Go.V
open Go.Lib

theorem relL_head {w : World} {β : Map} {hp : Heap} {d : DV} {ds : List DV} {vs : Array Value} (h : RelL w β hp (d :: ds) vs) : RelD w β hp d (vs.getD 0 undef) := h.2 0 d rfl

/-- A slice of the caller's, its room named. -/
theorem VCalls.room {P : Program} {g : FuncId} {k sz off len : Nat} {rest : List DV} {hp : Heap} {R : DV → Heap → Prop} (h0 : 0 < len) (h : ∀ cap, len ≤ cap → VCalls P g (.ownc k sz off len cap :: rest) hp R) : VCalls P g (.own k sz off len :: rest) hp R := by
  refine ⟨fun w β vs hh ha => ?_⟩
  have h1 := relL_head ha
  have key : ∃ cap, len ≤ cap ∧ RelD w β hp (.ownc k sz off len cap) (vs.getD 0 undef) := by
    generalize vs.getD 0 undef = v at h1
    cases h1 with
    | own0 => omega
    | own _ _ _ _ cap b C T m hk hm h1 h2 h3 h4 => exact ⟨cap, h1, .ownc _ _ _ _ _ b off C T m hk hm h1 h2 h3 h4 (fun _ => rfl)⟩
  obtain ⟨cap, hc, hr⟩ := key
  refine (h cap hc).run w β vs hh ⟨ha.1, fun i d hd => ?_⟩
  cases i with
  | zero => simp at hd; subst hd; exact hr
  | succ i => exact ha.2 (i + 1) d (by simpa using hd)

/-- A slice without elements, opened: it may be nil or not. -/
theorem VCalls.open0 {P : Program} {g : FuncId} {rest : List DV} {hp : Heap} {R : DV → Heap → Prop} (h : ∀ ad cap, (∀ a, ad = some a → 0 < cap → a.spot = none) → VCalls P g (.pv (.lit (.slice ad 0 cap)) :: rest) hp R) : VCalls P g (.pv (.sl []) :: rest) hp R := by
  refine ⟨fun w β vs hh ha => ?_⟩
  have h1 := relL_head ha
  have key : ∃ ad cap, (∀ a, ad = some a → 0 < cap → a.spot = none) ∧ RelD w β hp (.pv (.lit (.slice ad 0 cap))) (vs.getD 0 undef) := by
    generalize vs.getD 0 undef = v at h1
    cases h1 with
    | pv _ _ hp0 => cases hp0 with
      | sl _ a cap sz val h1 h2 h3 h4 h5 h6 => exact ⟨a, cap, h4, .pv _ _ (.lit _ rfl)⟩
  obtain ⟨ad, cap, hs, hr⟩ := key
  refine (h ad cap hs).run w β vs hh ⟨ha.1, fun i d hd => ?_⟩
  cases i with
  | zero => simp at hd; subst hd; exact hr
  | succ i => exact ha.2 (i + 1) d (by simpa using hd)

theorem frozen_row {w : World} {b o : Nat} {C : Array Value} {T : TypeId} {m : Nat × Nat} (h : w.heap[b]? = some (.cells C T m)) (hm : m.2 ≤ m.1) : w.frozen? ⟨b, o, none⟩ = false := by
  obtain ⟨lo, up⟩ := m
  dsimp only at hm
  have : ¬ (lo ≤ o ∧ o < up) := by omega
  simp only [World.frozen?, h]
  simpa using this

/-- slices.overlaps at slices of two blocks. -/
theorem vcalls_apart {P : Program} {g : FuncId} {fn : Func} {hp : Heap} {k sz off len k2 sz2 off2 len2 cap2 : Nat} {tS tR e : TypeId} {n : Nat} {B B2 : Blk} (hf : P.funcs[g]? = some fn) (hname : (fn.name == "runtime.NumGoroutine") = false) (hb : fn.body.isNone = true) (hn : Extern.findNext fn = none)
    (he : Extern.find fn = some (Extern.SlicesOverlaps.overlaps #[tS, tS] #[tR])) (ht : velem P tS = some (none, e, n)) (hk : hp[k]? = some B) (hl : B.live = true) (hk2 : hp[k2]? = some B2) (hl2 : B2.live = true) (hne : k ≠ k2) (hlen : 0 < len) (hsz : 0 < B2.cells.length) :
    VCalls P g [.own k sz off len, .ownc k2 sz2 off2 len2 cap2] hp fun r h' => r = .bool false ∧ h' = hp := by
  refine ⟨fun w β vs hh ha => ?_⟩
  obtain ⟨hu, i, hi, rfl⟩ := velem_slice ht
  have h1 := ha.2 0 _ rfl
  have h2 := ha.2 1 _ rfl
  have hvs : vs = #[vs.getD 0 undef, vs.getD 1 undef] := by
    have h1 := ha.1
    simp at h1
    apply Array.ext
    · simp; omega
    · intro i h2 h3
      simp at h3
      match i, h3 with
      | 0, _ => simp [Array.getElem?_eq_getElem h2]
      | 1, _ => simp [Array.getElem?_eq_getElem h2]
  generalize vs.getD 0 undef = v at *
  generalize vs.getD 1 undef = u at *
  subst hvs
  have key : (Extern.SlicesOverlaps.overlaps #[tS, tS] #[tR] #[v, u]).run P w = .ok (.bool false) w := by
    cases h2 with
    | ownc _ _ _ _ _ b2 o2 C2 T2 m2 _ hm2 g1 g2 g3 g4 g5 =>
      cases h1 with
      | own0 => omega
      | own _ _ _ _ cap b C T m _ hm f1 f2 f3 f4 =>
        obtain ⟨C0, c1, _, _⟩ := hh.blk k B b hk hl hm
        obtain ⟨C20, d1, d2, _⟩ := hh.blk k2 B2 b2 hk2 hl2 hm2
        have hbb : b ≠ b2 := fun e => hne (hh.inj k k2 B B2 b hk hk2 hl hl2 hm (by rw [e]; exact hm2))
        rw [f3] at c1
        simp at c1
        obtain ⟨rfl, rfl, rfl⟩ := c1
        rw [g3] at d1
        simp at d1
        obtain ⟨rfl, rfl, rfl⟩ := d1
        refine run_overlaps_apart w tS tR e hu i.size (fun w => by simp [sizeOf, typeInfo, hi]) ⟨b, off, none⟩ ⟨b2, o2, none⟩ len cap len2 cap2 hbb _ _ _ _ (by simp [World.shape?, f3]; exact ⟨rfl, rfl⟩) (by simp [World.shape?, g3]; exact ⟨rfl, rfl⟩) (by omega) ?_ ?_
        · exact frozen_row f3 C0.ok
        · exact frozen_row f3 C0.ok
  refine .inr ⟨fn, .bool false, w, hf, hb, ?_, .bool false, .bool false, hp, β, rfl, Evo.refl w β hp, hh, .pv _ _ (.lit _ rfl), rfl, rfl⟩
  rw [run_callFunc_extern hf hname hb hn he]
  simp [key]

mutual
theorem nums_ren_d (σ : Nat → Nat) : ∀ (d : DV), (d.ren σ).nums (fun _ => false) = true → d.nums (fun _ => false) = true
  | .pv _, _ => rfl
  | .ptr _ _, h => h
  | .own _ _ _ _, h => h
  | .ownc _ _ _ _ _, h => h
  | .ip _, _ => rfl
  | .any, _ => rfl
  | .agg cs, h => nums_ren_go σ cs h
  | .tup cs, h => nums_ren_go σ cs h
  | .fn f a b, h => by
    simp only [DV.ren, DV.nums, Bool.and_eq_true] at h ⊢
    exact ⟨nums_ren_go σ a h.1, nums_ren_go σ b h.2⟩
  | .opt c d, h => nums_ren_d σ d h
theorem nums_ren_go (σ : Nat → Nat) : ∀ (ds : List DV), DV.nums.go (fun _ => false) (DV.ren.go σ ds) = true → DV.nums.go (fun _ => false) ds = true
  | [], _ => rfl
  | d :: r, h => by
    simp only [DV.ren.go, DV.nums.go, Bool.and_eq_true] at h ⊢
    exact ⟨nums_ren_d σ d h.1, nums_ren_go σ r h.2⟩
end

/-- Blocks that nobody holds any more, but those of kp. -/
def deadK (kp : Nat → Bool) (h : Heap) : Heap := h.mapIdx fun i B => if kp i then B else ⟨B.ty, false, []⟩
theorem deadK_len (kp : Nat → Bool) (h : Heap) : (deadK kp h).length = h.length := by simp [deadK]
theorem deadK_get {kp : Nat → Bool} {h : Heap} {k : Nat} {B : Blk} (hk : (deadK kp h)[k]? = some B) (hl : B.live = true) : kp k = true ∧ h[k]? = some B := by
  unfold deadK at hk
  rw [List.getElem?_mapIdx] at hk
  obtain ⟨x, h1, h2⟩ := map_eq hk
  split at h2
  · rename_i hkp
    subst h2
    exact ⟨hkp, h1⟩
  · subst h2
    cases hl

/-- What comes back of a call is one slice, which gets a number of its own; all else is given up, but blocks that are as they were. -/
theorem VCalls.freshK {P : Program} {g : FuncId} {args : List DV} {h : Heap} (kp : Nat → Bool) {R : DV → Heap → Prop} {R' : Nat → Nat → TypeId → List DV → Prop} (c : VCalls P g args h R)
    (hR : ∀ r h', R r h' → (∀ i B, kp i = true → h[i]? = some B → h'[i]? = some B ∧ DV.nums.go (fun _ => false) B.cells = true) ∧ ∃ sz n T cs, ((r = .pv (.slc []) ∧ n = 0 ∧ cs = []) ∨ ∃ k, (r = .own k sz 0 n ∨ ∃ cap, 0 < cap ∧ r = .ownc k sz 0 n cap) ∧ (kp k = true → h.length ≤ k) ∧ h'[k]? = some ⟨T, true, cs⟩ ∧ DV.nums.go (fun _ => false) cs = true) ∧ R' sz n T cs) :
    VCalls P g args h fun r h' => ∃ sz n T cs, R' sz n T cs ∧ r = .own h.length sz 0 n ∧ h' = deadK kp h ++ [⟨T, true, cs⟩] := by
  refine ⟨fun w β vs hh ha => (c.run w β vs hh ha).mono ?_⟩
  rintro e w' ⟨v, r, h', β', rfl, ev, hh', hr, hq⟩
  obtain ⟨hkeep, sz, n, T, cs, hrk, hR'⟩ := hR r h' hq
  obtain ⟨fk, hnum, hlive, hnone, hval⟩ : ∃ fk : Option Nat, DV.nums.go (fun _ => false) cs = true ∧ (∀ b, fk = some b → ∃ k, h'[k]? = some ⟨T, true, cs⟩ ∧ β'.f k = some b ∧ (kp k = true → h.length ≤ k)) ∧ (fk = none → cs = []) ∧
      ∀ (β2 : Map) (h2 : Heap) (j : Nat), j < h2.length → β2.f j = fk → RelD w' β2 h2 (.own j sz 0 n) v := by
    rcases hrk with ⟨rfl, rfl, rfl⟩ | ⟨k, hrk, hkp, hk, hnum⟩
    · refine ⟨none, rfl, by simp, fun _ => rfl, fun β2 h2 j hj hf => ?_⟩
      cases hr with
      | pv _ _ hp0 => cases hp0 with
        | slc _ a sz2 val h1 h2 h3 h4 h5 => exact .own0 _ _ a hj hf trivial
    · refine ⟨β'.f k, hnum, fun b hb => ⟨k, hk, hb, hkp⟩, fun hn => hh'.none k _ hk rfl hn, fun β2 h2 j hj hf => ?_⟩
      rcases hrk with rfl | ⟨cap, hcap, rfl⟩
      · cases hr with
        | own _ _ _ _ cap b C T' m _ hm h1 h2 h3 h4 => exact .own _ _ _ _ cap b C T' m hj (hf.trans hm) h1 h2 h3 h4
        | own0 _ _ a _ hm h1 => exact .own0 _ _ a hj (hf.trans hm) h1
      · cases hr with
        | ownc _ _ _ _ _ b o C T' m _ hm h1 h2 h3 h4 h5 =>
          rw [h5 hcap]
          exact .own _ _ _ _ cap b C T' m hj (hf.trans hm) h1 h2 h3 h4
  have at_ : ∀ {j : Nat} {D : Blk}, (deadK kp h ++ [(⟨T, true, cs⟩ : Blk)])[j]? = some D → D.live = true → (j < h.length ∧ kp j = true ∧ h[j]? = some D) ∨ (j = h.length ∧ D = ⟨T, true, cs⟩) := fun {j D} hj hD => by
    rw [List.getElem?_append, deadK_len] at hj
    split at hj
    · rename_i hlt
      obtain ⟨g1, g2⟩ := deadK_get hj hD
      exact .inl ⟨hlt, g1, g2⟩
    · rename_i hge
      have hj0 : j - h.length = 0 := by
        rcases Nat.eq_zero_or_pos (j - h.length) with h0 | h0
        · exact h0
        · rw [List.getElem?_eq_none (by simp; omega)] at hj; cases hj
      rw [hj0] at hj
      simp at hj
      exact .inr ⟨by omega, hj.symm⟩
  have fnew : (ext β h.length fk).f h.length = fk := by simp [ext]
  have fold : ∀ {j}, j < h.length → (ext β h.length fk).f j = β'.f j := fun {j} hj => by rw [ext_lt hj, ev.beta j hj]
  -- each block of the new heap is one of the old
  have src : ∀ {j : Nat} {D : Blk}, (deadK kp h ++ [(⟨T, true, cs⟩ : Blk)])[j]? = some D → D.live = true → DV.nums.go (fun _ => false) D.cells = true ∧ ((ext β h.length fk).f j = none → D.cells = []) ∧ (∀ b, (ext β h.length fk).f j = some b → ∃ k, h'[k]? = some D ∧ β'.f k = some b ∧ ((j < h.length ∧ k = j) ∨ (j = h.length ∧ (kp k = true → h.length ≤ k)))) := fun {j D} hj hD => by
    rcases at_ hj hD with ⟨hlt, g1, g2⟩ | ⟨rfl, rfl⟩
    · obtain ⟨g3, g4⟩ := hkeep j D g1 g2
      rw [fold hlt]
      exact ⟨g4, fun hn => hh'.none j D g3 hD hn, fun b hb => ⟨j, g3, hb, .inl ⟨hlt, rfl⟩⟩⟩
    · rw [fnew]
      exact ⟨hnum, hnone, fun b hb => by obtain ⟨k, k1, k2, k3⟩ := hlive b hb; exact ⟨k, k1, k2, .inr ⟨rfl, k3⟩⟩⟩
  have lv : ∀ b, live (ext β h.length fk) (deadK kp h ++ [(⟨T, true, cs⟩ : Blk)]) b → live β' h' b := by
    rintro b ⟨j, D, h1, h2, h3⟩
    obtain ⟨_, _, hs⟩ := src h1 h2
    obtain ⟨k, k1, k2, _⟩ := hs b h3
    exact ⟨k, D, k1, h2, k2⟩
  have im : ∀ b, img (ext β h.length fk) (deadK kp h ++ [(⟨T, true, cs⟩ : Blk)]) b → img β' h' b := by
    rintro b (hb | hb)
    · exact .inl (by rw [ev.X]; exact hb)
    · exact .inr (lv b hb)
  have rel : ∀ {ds : List DV}, DV.nums.go (fun _ => false) ds = true → ∀ (i : Nat) (d : DV), ds[i]? = some d → ∀ u, RelD w' β' h' d u → RelD w' (ext β h.length fk) (deadK kp h ++ [(⟨T, true, cs⟩ : Blk)]) d u := fun {ds} hnum i d hd u hu => by
    have hn : d.nums (fun _ => false) = true := DV.nums_go hnum i d hd
    have := RelD.ren (σ := fun _ => 0) (p := fun _ => false) (β' := ext β h.length fk) (hp' := deadK kp h ++ [(⟨T, true, cs⟩ : Blk)]) (fun _ h => by cases h) im hu hn
    rwa [ren_id _ d hn] at this
  have evo : Evo w β h w' (ext β h.length fk) (deadK kp h ++ [(⟨T, true, cs⟩ : Blk)]) :=
    ⟨ev.os, ev.tape, ev.output, ev.size, by simp [deadK_len], fun j hj => ext_lt hj, ev.same, ev.shape, fun b hb hl => ev.im b hb (lv b hl), rfl⟩
  have heap : HeapRel w' (ext β h.length fk) (deadK kp h ++ [(⟨T, true, cs⟩ : Blk)]) := by
    refine ⟨fun j D b h1 h2 h3 => ?_, fun j D h1 h2 h3 => ?_, fun i j D D' b h1 h2 h3 h4 f1 f2 => ?_, fun j D b h1 h2 h3 => ?_, fun b hb => Nat.lt_of_lt_of_le (hh.bound b hb) ev.size⟩
    · obtain ⟨s1, _, s2⟩ := src h1 h2
      obtain ⟨k, hk, hb, _⟩ := s2 b h3
      obtain ⟨C, c1, c2, c3⟩ := hh'.blk k D b hk h2 hb
      exact ⟨C, c1, c2, fun i d hd => ⟨(c3 i d hd).1, rel s1 i d hd _ (c3 i d hd).2⟩⟩
    · obtain ⟨_, s1, _⟩ := src h1 h2
      exact s1 h3
    · obtain ⟨_, _, s1⟩ := src h1 h3
      obtain ⟨_, _, s2⟩ := src h2 h4
      obtain ⟨k, k1, k2, k3⟩ := s1 b f1
      obtain ⟨l, l1, l2, l3⟩ := s2 b f2
      have e := hh'.inj k l D D' b k1 l1 h3 h4 k2 l2
      subst e
      rcases at_ h1 h3 with ⟨p1, p2, _⟩ | ⟨p1, _⟩ <;> rcases at_ h2 h4 with ⟨q1, q2, _⟩ | ⟨q1, _⟩
      · rcases k3 with ⟨_, k3⟩ | ⟨k3, _⟩ <;> rcases l3 with ⟨_, l3⟩ | ⟨l3, _⟩ <;> omega
      · rcases k3 with ⟨_, k3⟩ | ⟨k3, _⟩
        · subst k3
          rcases l3 with ⟨l3, _⟩ | ⟨_, l3⟩
          · omega
          · have := l3 p2; omega
        · omega
      · rcases l3 with ⟨_, l3⟩ | ⟨l3, _⟩
        · subst l3
          rcases k3 with ⟨k3, _⟩ | ⟨_, k3⟩
          · omega
          · have := k3 q2; omega
        · omega
      · omega
    · obtain ⟨_, _, s2⟩ := src h1 h2
      obtain ⟨k, hk, hb, _⟩ := s2 b h3
      have := hh'.avoid k D b hk h2 hb
      rwa [ev.X] at this
  exact ⟨v, .own h.length sz 0 n, _, _, rfl, evo, heap, hval _ _ _ (by simp [deadK_len]) fnew, sz, n, T, cs, hR', rfl, rfl⟩

theorem kill_at (hp : Heap) (k j : Nat) : (kill hp k)[j]? = if j = k then (hp[j]?).map (fun B => ⟨B.ty, false, []⟩) else hp[j]? := by
  unfold kill
  split
  · rename_i B hk
    have hlt := (List.getElem?_eq_some_iff.1 hk).1
    by_cases e : j = k
    · subst e; rw [if_pos rfl, List.getElem?_set_self hlt, hk]; rfl
    · rw [if_neg e, List.getElem?_set_ne (by omega)]
  · rename_i hk
    split
    · rename_i e; subst e; rw [hk]; rfl
    · rfl
theorem kills_at (hp : Heap) (l : List Nat) (j : Nat) : (kills hp l)[j]? = if j ∈ l then (hp[j]?).map (fun B => ⟨B.ty, false, []⟩) else hp[j]? := by
  induction l generalizing hp with
  | nil => simp [kills]
  | cons k r ih =>
    rw [kills, ih, kill_at]
    by_cases e : j = k
    · subst e
      simp only [if_true, List.mem_cons, true_or]
      split
      · cases hp[j]? <;> rfl
      · rfl
    · simp only [List.mem_cons, e, false_or, if_false]

/-- A contract whose answer is one new slice, at a call: 'sel': the blocks that are handed over; 'kp': which of them stay as they are. -/
theorem vc_freshK {P : Program} {g : FuncId} {args args0 : List DV} {hp h0 : Heap} {K : DV → Heap → Prop} {R' : Nat → Nat → TypeId → List DV → Prop} (sel : List Nat) (kp : Nat → Bool) (hnd : sel.Nodup) (hl : lentTo hp sel = some h0) (hok : lentOk hp sel = true)
    (c : VCalls P g args0 h0 fun r h' => ∃ sz n T cs, R' sz n T cs ∧ r = .own h0.length sz 0 n ∧ h' = deadK kp h0 ++ [⟨T, true, cs⟩]) (ha0 : args0 = args.map (DV.ren fun j => sel.idxOf j)) (ha : DV.nums.go sel.contains args = true)
    (hkeep : ∀ i B, kp i = true → h0[i]? = some B → DV.nums.go (fun _ => false) B.cells = true) (hR : ∀ sz n T cs, R' sz n T cs → DV.nums.go (fun _ => false) cs = true)
    (h : ∀ sz n T cs, R' sz n T cs → K (.own hp.length sz 0 n) (kills hp (sel.filter fun k => !kp (sel.idxOf k)) ++ [⟨T, true, cs⟩])) : VCalls P g args hp K := by
  refine (VCalls.frame sel hnd hl hok c ha0 ha).mono ?_
  rintro r h2 ⟨r0, h', ⟨sz, n, T, cs, hR1, rfl, rfl⟩, hlen, rfl, rfl⟩
  obtain ⟨l1, l2⟩ := allSome_get hl
  have hlen0 : h0.length = sel.length := by rw [l1, List.length_map]
  have e1 : DV.ren (back sel hp.length) (.own h0.length sz 0 n) = .own hp.length sz 0 n := by
    simp [DV.ren, back, hlen0]
  have hcs := hR sz n T cs hR1
  have rb : ∀ {σ : Nat → Nat} {B : Blk}, DV.nums.go (fun _ => false) B.cells = true → renB σ B = B := fun {σ B} hB => by
    obtain ⟨t, lv, c⟩ := B
    simp only [renB]
    rw [← DV.ren_go, ren_id_go _ _ hB]
  have e2 : behind hp sel (deadK kp h0 ++ [(⟨T, true, cs⟩ : Blk)]) = kills hp (sel.filter fun k => !kp (sel.idxOf k)) ++ [⟨T, true, cs⟩] := by
    have hd : (deadK kp h0 ++ [(⟨T, true, cs⟩ : Blk)]).drop sel.length = [⟨T, true, cs⟩] := by
      rw [List.drop_left' (by rw [deadK_len, hlen0])]
    unfold behind
    rw [hd, List.map_cons, List.map_nil, rb hcs]
    congr 1
    apply List.ext_getElem?
    intro j
    rw [kills_at, List.getElem?_map]
    by_cases hj : j < hp.length
    · rw [List.getElem?_range hj, Option.map_some]
      have hget : hp[j]? = some hp[j] := List.getElem?_eq_getElem hj
      by_cases hm : j ∈ sel
      · have hlt := List.idxOf_lt_length_of_mem hm
        have hc : sel.contains j = true := by simpa using hm
        rw [if_pos hc]
        have hi : sel[sel.idxOf j]? = some j := by rw [List.getElem?_eq_getElem hlt]; simp
        have hh0 : h0[sel.idxOf j]? = some (renB (fun j => sel.idxOf j) hp[j]) := by
          have hlt0 : sel.idxOf j < h0.length := by rw [hlen0]; exact hlt
          have h3 := l2 (sel.idxOf j) h0[sel.idxOf j] (List.getElem?_eq_getElem hlt0)
          rw [List.getElem?_map, hi, Option.map_some, hget] at h3
          simp at h3
          rw [List.getElem?_eq_getElem hlt0, ← h3]
        have hdk : (deadK kp h0 ++ [(⟨T, true, cs⟩ : Blk)]).getD (sel.idxOf j) default = if kp (sel.idxOf j) then renB (fun j => sel.idxOf j) hp[j] else ⟨hp[j].ty, false, []⟩ := by
          rw [List.getD_eq_getElem?_getD, List.getElem?_append_left (by rw [deadK_len, hlen0]; exact hlt), deadK, List.getElem?_mapIdx, hh0]
          cases kp (sel.idxOf j) <;> rfl
        rw [hdk]
        cases hkp : kp (sel.idxOf j) with
        | true =>
          have hnf : ¬ j ∈ sel.filter (fun k => !kp (sel.idxOf k)) := by simp [hkp]
          rw [if_neg hnf, hget]
          simp only [if_true]
          have hB := hkeep _ _ hkp hh0
          congr 1
          have hB' : DV.nums.go (fun _ => false) hp[j].cells = true := nums_ren_go (fun j => sel.idxOf j) _ (by rw [DV.ren_go]; exact hB)
          rw [rb hB, rb hB']
        | false =>
          have hnf : j ∈ sel.filter (fun k => !kp (sel.idxOf k)) := by simp [hkp, hm]
          rw [if_pos hnf, hget]
          rfl
      · have hc : sel.contains j = false := by simpa using hm
        have hnf : ¬ j ∈ sel.filter (fun k => !kp (sel.idxOf k)) := by simp [hm]
        rw [if_neg (by rw [hc]; simp), if_neg hnf, List.getD_eq_getElem?_getD, hget]; rfl
    · rw [List.getElem?_eq_none (l := List.range hp.length) (by simpa using Nat.le_of_not_lt hj), List.getElem?_eq_none (l := hp) (Nat.le_of_not_lt hj)]
      simp
  rw [e1, e2]
  exact h sz n T cs hR1

/-- One new slice comes back; of the blocks handed over those of kp are as they were. -/
abbrev NewSl (kp : Nat → Bool) (h : Heap) (sz n : Nat) (T : TypeId) (cs : List DV) : DV → Heap → Prop := fun r h' => r = .own h.length sz 0 n ∧ h' = deadK kp h ++ [⟨T, true, cs⟩]
/-- What may come back of the callee's code, before it gets its number. -/
def SomeSl (kp : Nat → Bool) (h : Heap) (sz n : Nat) (T : TypeId) (cs : List DV) : DV → Heap → Prop := fun r h' =>
  (∀ i B, kp i = true → h[i]? = some B → h'[i]? = some B ∧ DV.nums.go (fun _ => false) B.cells = true) ∧
  ((r = .pv (.slc []) ∧ n = 0 ∧ cs = []) ∨ ∃ k, (r = .own k sz 0 n ∨ ∃ cap, 0 < cap ∧ r = .ownc k sz 0 n cap) ∧ (kp k = true → h.length ≤ k) ∧ h'[k]? = some ⟨T, true, cs⟩ ∧ DV.nums.go (fun _ => false) cs = true)
theorem VCalls.newSl {P : Program} {g : FuncId} {args : List DV} {h : Heap} {kp : Nat → Bool} {sz n : Nat} {T : TypeId} {cs : List DV} (c : VCalls P g args h (SomeSl kp h sz n T cs)) : VCalls P g args h (NewSl kp h sz n T cs) := by
  refine (VCalls.freshK kp (R' := fun sz' n' T' cs' => sz' = sz ∧ n' = n ∧ T' = T ∧ cs' = cs) c fun r h' hr => ⟨hr.1, sz, n, T, cs, hr.2, rfl, rfl, rfl, rfl⟩).mono ?_
  rintro r h' ⟨_, _, _, _, ⟨rfl, rfl, rfl, rfl⟩, rfl, rfl⟩
  exact ⟨rfl, rfl⟩
theorem vc_new {P : Program} {g : FuncId} {args args0 : List DV} {hp h0 : Heap} {K : DV → Heap → Prop} {kp : Nat → Bool} {sz n : Nat} {T : TypeId} {cs : List DV} (sel : List Nat) (c : VCalls P g args0 h0 (NewSl kp h0 sz n T cs)) (hnd : sel.Nodup) (hl : lentTo hp sel = some h0) (hok : lentOk hp sel = true)
    (ha0 : args0 = args.map (DV.ren fun j => sel.idxOf j)) (ha : DV.nums.go sel.contains args = true)
    (hkeep : ∀ i B, kp i = true → h0[i]? = some B → DV.nums.go (fun _ => false) B.cells = true) (hc : DV.nums.go (fun _ => false) cs = true)
    (h : K (.own hp.length sz 0 n) (kills hp (sel.filter fun k => !kp (sel.idxOf k)) ++ [⟨T, true, cs⟩])) : VCalls P g args hp K := by
  refine vc_freshK (R' := fun sz' n' T' cs' => sz' = sz ∧ n' = n ∧ T' = T ∧ cs' = cs) sel kp hnd hl hok (c.mono fun r h' e => ⟨sz, n, T, cs, ⟨rfl, rfl, rfl, rfl⟩, e.1, e.2⟩) ha0 ha hkeep ?_ ?_
  · rintro _ _ _ _ ⟨rfl, rfl, rfl, rfl⟩; exact hc
  · rintro _ _ _ _ ⟨rfl, rfl, rfl, rfl⟩; exact h
/-- .. whose arguments name no block. -/
theorem vc_new0 {P : Program} {g : FuncId} {args : List DV} {hp : Heap} {K : DV → Heap → Prop} {kp : Nat → Bool} {sz n : Nat} {T : TypeId} {cs : List DV} (c : VCalls P g args [] (NewSl kp [] sz n T cs)) (ha : DV.nums.go (fun _ => false) args = true) (hc : DV.nums.go (fun _ => false) cs = true)
    (h : K (.own hp.length sz 0 n) (hp ++ [⟨T, true, cs⟩])) : VCalls P g args hp K := by
  refine vc_new [] c List.nodup_nil rfl rfl ?_ ?_ (by simp) hc ?_
  · rw [← DV.ren_go, ren_id_go _ _ ha]
  · rw [← ha]; congr 1
  · exact h

/-- Blocks of plain cells. -/
def plainL (hp : Heap) : List Nat → Prop
  | [] => True
  | k :: r => (k < hp.length ∧ DV.nums.go (fun _ => false) (hp.getD k default).cells = true) ∧ plainL hp r
theorem plainL_get {hp : Heap} {sel : List Nat} (h : plainL hp sel) : ∀ k ∈ sel, k < hp.length ∧ DV.nums.go (fun _ => false) (hp.getD k default).cells = true := by
  induction sel with
  | nil => simp
  | cons a r ih =>
    intro k hk
    rcases List.mem_cons.1 hk with rfl | hk
    · exact h.1
    · exact ih h.2 k hk
theorem renB_plain {σ : Nat → Nat} {B : Blk} (hB : DV.nums.go (fun _ => false) B.cells = true) : renB σ B = B := by
  obtain ⟨t, lv, c⟩ := B
  simp only [renB]
  rw [← DV.ren_go, ren_id_go _ _ hB]
theorem allSome_map {α β : Type} (l : List α) (f : α → Option β) (g : α → β) (h : ∀ a ∈ l, f a = some (g a)) : allSome (l.map f) = some (l.map g) := by
  induction l with
  | nil => rfl
  | cons a r ih =>
    rw [List.map_cons, h a (by simp), List.map_cons]
    simp only [allSome]
    rw [ih fun b hb => h b (by simp [hb])]
    rfl
theorem lentTo_plain {hp : Heap} {sel : List Nat} (h : plainL hp sel) : lentTo hp sel = some (sel.map fun k => hp.getD k default) := by
  refine allSome_map sel _ _ fun k hk => ?_
  obtain ⟨h1, h2⟩ := plainL_get h k hk
  rw [List.getD_eq_getElem?_getD, List.getElem?_eq_getElem h1] at h2 ⊢
  simp only [Option.map_some, Option.getD_some] at h2 ⊢
  rw [renB_plain h2]
theorem lentOk_plain {hp : Heap} {sel : List Nat} (h : plainL hp sel) : lentOk hp sel = true := by
  unfold lentOk
  rw [List.all_eq_true]
  intro k hk
  obtain ⟨h1, h2⟩ := plainL_get h k hk
  rw [List.getD_eq_getElem?_getD, List.getElem?_eq_getElem h1] at h2
  rw [List.getElem?_eq_getElem h1]
  simp only [Option.getD_some] at h2 ⊢
  rw [nums_mono_go _ _ h2]; simp
theorem vc_newP {P : Program} {g : FuncId} {args args0 : List DV} {hp h0 : Heap} {K : DV → Heap → Prop} {kp : Nat → Bool} {sz n : Nat} {T : TypeId} {cs : List DV} (sel give : List Nat) (c : VCalls P g args0 h0 (NewSl kp h0 sz n T cs)) (hh0 : h0 = sel.map fun k => hp.getD k default) (hpl : plainL hp sel) (hnd : sel.Nodup) (hgv : (sel.filter fun k => !kp (sel.idxOf k)) = give)
    (ha0 : args0 = args.map (DV.ren fun j => sel.idxOf j)) (ha : DV.nums.go sel.contains args = true) (hc : DV.nums.go (fun _ => false) cs = true)
    (h : K (.own hp.length sz 0 n) (kills hp give ++ [⟨T, true, cs⟩])) : VCalls P g args hp K := by
  subst hgv
  refine vc_new sel c hnd (by rw [lentTo_plain hpl, hh0]) (lentOk_plain hpl) ha0 ha (fun i B _ hB => ?_) hc h
  rw [hh0, List.getElem?_map] at hB
  obtain ⟨k, h1, h2⟩ := map_eq hB
  subst h2
  exact (plainL_get hpl k (List.mem_of_getElem? h1)).2
end Go.V

/-
  V, part 35: a call that only reads: what the caller holds of its own is lent for the call's time, addresses and what closures hold too.
-/
set_option linter.unusedVariables false
namespace Go.V

/-- One argument, lent: a slice as one that nobody writes, an address as one of cells that nobody writes. -/
def frzB (hp : Heap) : DV → Option DV
  | .ptr k off => match blkCells hp k with
    | some cs => (allSome ((cs.drop off).map (frzP 0 hp 4))).map .ip
    | none => none
  | .ip cs => some (.ip cs)
  | d => frz1 0 hp d
def frzA (hp : Heap) : DV → Option DV
  | .fn f a b => match allSome (a.map (frzB hp)), allSome (b.map (frzB hp)) with
    | some a', some b' => some (.fn f a' b')
    | _, _ => none
  | .agg cs => (allSome (cs.map (frzB hp))).map .agg
  | d => frzB hp d

theorem frzB_sound {w : World} {β βc : Map} {hp : Heap} (hh : HeapRel w β hp) (hl : Leaves w β hp 0 (img βc [])) {d d' : DV} {v : Value} (hd : RelD w β hp d v) (h : frzB hp d = some d') : RelD w βc [] d' v := by
  unfold frzB at h
  split at h
  · rename_i k off
    split at h
    · rename_i cs hb
      obtain ⟨ps, h1, h2⟩ := map_eq h
      subst h2
      obtain ⟨g1, g2⟩ := allSome_get h1
      cases hd with
      | ptr _ _ b hk hm =>
        obtain ⟨B, C, q1, q2, q3, q4, q5, q6⟩ := blk_cell hh hb hm
        have each : ∀ (j : Nat) (d : PV), ps[j]? = some d → off + j < C.v.size ∧ RelP w (img βc []) d (C.v.getD (off + j) undef) := fun j d hj => by
          have h3 := g2 j d hj
          rw [List.getElem?_map, List.getElem?_drop] at h3
          obtain ⟨x, x1, x2⟩ := map_eq h3
          have hlt := (List.getElem?_eq_some_iff.1 x1).1
          exact ⟨by omega, frzP_sound hh hl 4 (q6 _ _ x1).2 x2⟩
        refine .ip ps ⟨b, off, none⟩ (fun j => C.v.getD (off + j) undef) rfl (fun j d hj => ⟨?_, ?_, ?_⟩) (fun j d hj => (each j d hj).2)
        · exact (Array.getElem?_eq_some_iff.1 q4).1
        · exact hl.off k B b (Nat.zero_le _) q1 q2 hm
        · exact cell_of_blk q4 (each j d hj).1
    · cases h
  · rename_i cs
    simp at h
    subst h
    cases hd with
    | ip _ ad val h1 h2 h3 =>
      exact .ip cs ad val h1 (fun j d hd => ⟨(h2 j d hd).1, fun x => (h2 j d hd).2.1 (hl.sub _ x), (h2 j d hd).2.2⟩) (fun j d hd => (h3 j d hd).mono (Nat.le_refl _) (fun _ _ _ => rfl) (fun b _ => hl.sub b))
  · exact frz1_sound (β' := βc) (hp' := []) hh hl (fun k hk => absurd hk (Nat.not_lt_zero _)) (Nat.zero_le _) hd h

theorem frzBL_sound {w : World} {β βc : Map} {hp : Heap} (hh : HeapRel w β hp) (hl : Leaves w β hp 0 (img βc [])) {ds ds' : List DV} {n : Nat} {f : Nat → Value} (hn : ds.length = n) (hd : ∀ i d, ds[i]? = some d → RelD w β hp d (f i)) (h : allSome (ds.map (frzB hp)) = some ds') : ds'.length = n ∧ ∀ i d, ds'[i]? = some d → RelD w βc [] d (f i) := by
  obtain ⟨h1, h2⟩ := allSome_get h
  refine ⟨by rw [h1, List.length_map, hn], fun i d hi => ?_⟩
  have h3 := h2 i d hi
  rw [List.getElem?_map] at h3
  obtain ⟨x, x1, x2⟩ := map_eq h3
  exact frzB_sound hh hl (hd i x x1) x2

theorem frzA_sound {w : World} {β βc : Map} {hp : Heap} (hh : HeapRel w β hp) (hl : Leaves w β hp 0 (img βc [])) {d d' : DV} {v : Value} (hd : RelD w β hp d v) (h : frzA hp d = some d') : RelD w βc [] d' v := by
  unfold frzA at h
  split at h
  · rename_i f a b
    split at h
    · rename_i a' b' ha hb
      simp at h
      subst h
      cases hd with
      | fn _ _ _ vs us h1 h2 h3 h4 =>
        obtain ⟨p1, p2⟩ := frzBL_sound hh hl h1 h3 ha
        obtain ⟨q1, q2⟩ := frzBL_sound hh hl h2 h4 hb
        exact .fn f a' b' vs us p1 q1 p2 q2
    · cases h
  · rename_i cs
    obtain ⟨ds, h1, h2⟩ := map_eq h
    subst h2
    cases hd with
    | agg _ vs g1 g2 =>
      obtain ⟨p1, p2⟩ := frzBL_sound hh hl g1 g2 h1
      exact .agg _ _ p1 p2
  · exact frzB_sound hh hl hd h

/-- The caller lends what it holds for the call's time. -/
theorem VCalls.lendA {P : Program} {g : FuncId} {args args0 : List DV} {hp : Heap} {R : DV → Prop} (ha : allSome (args.map (frzA hp)) = some args0) (c : VCalls P g args0 [] fun r h' => h' = [] ∧ r.flat = true ∧ R r) :
    VCalls P g args hp fun r h' => h' = hp ∧ R r := by
  refine ⟨fun w β vs hh hr => ?_⟩
  let βc : Map := ⟨fun _ => none, β.X⟩
  have himc : ∀ b, img βc [] b → β.X b := fun b hb => by
    rcases hb with hb | ⟨i, D, h1, _⟩
    · exact hb
    · simp at h1
  have hlv : Leaves w β hp 0 (img βc []) := ⟨fun b hb => .inl (himc b hb), fun k B b _ h1 h2 h3 hb => hh.avoid k B b h1 h2 h3 (himc b hb)⟩
  have hhc : HeapRel w βc [] := ⟨by simp, by simp, by simp, by simp, hh.bound⟩
  obtain ⟨a1, a2⟩ := allSome_get ha
  have hargs : RelL w βc [] args0 vs := by
    refine ⟨by rw [a1]; simpa using hr.1, fun i d hd => ?_⟩
    have h3 := a2 i d hd
    rw [List.getElem?_map] at h3
    obtain ⟨x, x1, x2⟩ := map_eq h3
    exact frzA_sound hh hlv (hr.2 i x x1) x2
  refine (c.run w βc vs hhc hargs).mono ?_
  rintro e w' ⟨v, r, h', β', rfl, ev, hh', hrel, rfl, hf, hR⟩
  have heap_same : ∀ b, b < w.heap.size → w'.heap[b]? = w.heap[b]? := fun b hb => ev.same b hb (by rintro ⟨k, B, h1, _⟩; simp at h1)
  have e : Evo w β hp w' β hp := ⟨ev.os, ev.tape, ev.output, ev.size, Nat.le_refl _, fun _ _ => rfl, fun b hb _ => heap_same b hb, fun b C T m h => ⟨C, m, by rw [heap_same b (Array.getElem?_eq_some_iff.1 h).1]; exact h, rfl⟩, fun _ _ h => h, rfl⟩
  refine ⟨v, r, hp, β, rfl, e, ?_, hrel.flat hf, rfl, hR⟩
  refine ⟨fun k B b h1 h2 h3 => ?_, hh.none, hh.inj, hh.avoid, fun b hb => Nat.lt_of_lt_of_le (hh.bound b hb) ev.size⟩
  obtain ⟨C, g1, g2, g3⟩ := hh.blk k B b h1 h2 h3
  exact ⟨C, by rw [heap_same b (Array.getElem?_eq_some_iff.1 g1).1]; exact g1, g2, fun i d hd => ⟨(g3 i d hd).1, (g3 i d hd).2.mono e⟩⟩
theorem vc_lendA {P : Program} {g : FuncId} {args args0 : List DV} {hp : Heap} {K : DV → Heap → Prop} {d : DV} (c : VCalls P g args0 [] (Ret d)) (ha : allSome (args.map (frzA hp)) = some args0) (hf : d.flat = true) (h : K d hp) : VCalls P g args hp K :=
  (VCalls.lendA (R := fun r => r = d) ha (c.mono fun r h' e => ⟨e.1, e.2.2 ▸ hf, e.2.2⟩)).mono fun r h' e => by obtain ⟨rfl, rfl⟩ := e; exact h
theorem frzA_own {α : Type} (e : Enc α) {hp : Heap} {k : Nat} {T : TypeId} (l : List α) (hk : hp[k]? = some ⟨T, true, cells e l⟩) : frzA hp (.own k e.sz 0 l.length) = some (.pv (.sl (fz e l))) := own_frz e (Nat.not_lt_zero k) l hk
theorem allSome2 {α : Type} {x y : Option α} {a b : α} (hx : x = some a) (hy : y = some b) : allSome [x, y] = some [a, b] := by subst hx hy; rfl

theorem splice_cells {α : Type} (e : Enc α) (l m : List α) (i : Nat) : splice (cells e l) (i * e.sz) (cells e m) = cells e (l.take i ++ m ++ l.drop (i + m.length)) := by
  unfold splice
  rw [cells_take, cells_len, ← Nat.add_mul, cells_drop, cells_app, cells_app]
/-! ### Lending, to be reckoned -/
def frzF (f : Fn) (a b : Option (List DV)) : Option DV := match a, b with | some a', some b' => some (.fn f a' b') | _, _ => none
def frzQ (x : Option (List DV)) (hp : Heap) (off : Nat) : Option DV := match x with | some cs => (allSome ((cs.drop off).map (frzP 0 hp 4))).map .ip | none => none
theorem frzA_agg {hp : Heap} {cs : List DV} : frzA hp (.agg cs) = (allSome (cs.map (frzB hp))).map .agg := rfl
theorem frzA_ownE {hp : Heap} {k sz off len : Nat} : frzA hp (.own k sz off len) = frz1 0 hp (.own k sz off len) := rfl
theorem frzB_ownE {hp : Heap} {k sz off len : Nat} : frzB hp (.own k sz off len) = frz1 0 hp (.own k sz off len) := rfl
theorem frzA_pv {hp : Heap} {p : PV} : frzA hp (.pv p) = some (.pv p) := rfl
theorem frzB_pv {hp : Heap} {p : PV} : frzB hp (.pv p) = some (.pv p) := rfl
theorem frzA_fn {hp : Heap} {f : Fn} {a b : List DV} : frzA hp (.fn f a b) = frzF f (allSome (a.map (frzB hp))) (allSome (b.map (frzB hp))) := rfl
theorem frzF_some {f : Fn} {a b : List DV} : frzF f (some a) (some b) = some (.fn f a b) := rfl
theorem frzB_ptrE {hp : Heap} {k off : Nat} : frzB hp (.ptr k off) = frzQ (blkCells hp k) hp off := rfl
theorem frzQ_some {cs : List DV} {hp : Heap} {off : Nat} : frzQ (some cs) hp off = (allSome ((cs.drop off).map (frzP 0 hp 4))).map .ip := rfl
end Go.V

/-
  V, part 36: a nil slice as a slice of the call's own, without elements.
-/
namespace Go.V

theorem sim_nilOwn {O : Org} {β : Map} {S : St} {a : Act} {w : World} (h : Sim O β S a w) (t : Nat) (T : TypeId) (sz : Nat) (ht : look S.tm t = .pv (.slc [])) :
    ∃ β', Sim O β' ⟨S.nt, S.base, (t, .own S.hp.length sz 0 0) :: S.tm, S.hp ++ [⟨T, true, []⟩]⟩ a w := by
  have e : Evo w β S.hp w (ext β S.hp.length none) (S.hp ++ [(⟨T, true, []⟩ : Blk)]) := by
    refine ⟨rfl, rfl, rfl, Nat.le_refl _, by simp, fun j hj => ext_lt hj, fun _ _ _ => rfl, fun _ C _ m h => ⟨C, m, h, rfl⟩, fun b _ hb => ?_, rfl⟩
    obtain ⟨j, D, g1, g2, g3⟩ := hb
    rcases Nat.lt_trichotomy j S.hp.length with hlt | heq | hgt
    · rw [List.getElem?_append_left hlt] at g1; rw [ext_lt hlt] at g3; exact ⟨j, D, g1, g2, g3⟩
    · subst heq; simp [ext] at g3
    · rw [List.getElem?_append_right (by omega), List.getElem?_eq_none (by simp; omega)] at g1; simp at g1
  refine ⟨_, h.defers, h.size, fun u => ?_, push_heap h.heap rfl e (by simp) (fun _ => rfl) (fun _ _ => rfl), h.evo.trans e, h.base⟩
  simp only [look]
  split
  · rename_i hu
    have := h.tm t
    rw [ht] at this
    rw [← hu]
    generalize a.tmps.getD t undef = v at this
    cases this with
    | pv _ _ hp0 => cases hp0 with
      | slc _ ad sz2 val h1 h2 h3 h4 h5 => exact .own0 _ _ ad (by simp) (by simp [ext]) trivial
  · exact (h.tm u).mono e
theorem VWp.nilOwn {P : Program} {c : Code} {Q : Exit → St → Prop} {S : St} (t : Nat) (T : TypeId) (sz : Nat) (ht : look S.tm t = .pv (.slc [])) (h : VWp P c Q ⟨S.nt, S.base, (t, .own S.hp.length sz 0 0) :: S.tm, S.hp ++ [⟨T, true, []⟩]⟩) : VWp P c Q S := fun O β a w hs =>
  let ⟨_, h'⟩ := sim_nilOwn hs t T sz ht
  h O _ a w h'
theorem VLoop.nilOwn {P : Program} {c : Code} {Q : Exit → St → Prop} {S : St} (t : Nat) (T : TypeId) (sz : Nat) (ht : look S.tm t = .pv (.slc [])) (h : VLoop P c Q ⟨S.nt, S.base, (t, .own S.hp.length sz 0 0) :: S.tm, S.hp ++ [⟨T, true, []⟩]⟩) : VLoop P c Q S := VWp.nilOwn t T sz ht h
end Go.V

namespace Go.V
open Go
/-- Slices whose capacity is known may be handed where it is not asked for. -/
theorem VCalls.wkA {P : Program} {g : FuncId} {args : List DV} {hp : Heap} {R : DV → Heap → Prop} (c : VCalls P g (DV.wk.go args) hp R) : VCalls P g args hp R :=
  ⟨fun w β vs hh ha => c.run w β vs hh ⟨by rw [wk_go_map, List.length_map]; exact ha.1, fun i d hd => by
    rw [wk_go_map, List.getElem?_map] at hd
    obtain ⟨x, h1, h2⟩ := map_eq hd
    subst h2
    exact (ha.2 i x h1).wk⟩⟩
end Go.V

/-
  V, part 38: what lies at the end of a block may be forgotten.
-/
namespace Go.V
open Go

/-- The same blocks, of which some are known less far. -/
structure Cut (h h' : Heap) : Prop where
  len : h'.length = h.length
  at_ : ∀ (k : Nat) (B : Blk), h[k]? = some B → ∃ B', h'[k]? = some B' ∧ B'.ty = B.ty ∧ B'.live = B.live ∧ ∃ t, B.cells = B'.cells ++ t
theorem Cut.back {h h' : Heap} (c : Cut h h') {k : Nat} {B' : Blk} (hk : h'[k]? = some B') : ∃ B, h[k]? = some B ∧ B'.ty = B.ty ∧ B'.live = B.live ∧ ∃ t, B.cells = B'.cells ++ t := by
  have hlt : k < h.length := by rw [← c.len]; exact (List.getElem?_eq_some_iff.1 hk).1
  obtain ⟨B2, g1, g2⟩ := c.at_ k h[k] (List.getElem?_eq_getElem hlt)
  rw [hk] at g1
  cases g1
  exact ⟨h[k], List.getElem?_eq_getElem hlt, g2⟩
theorem Cut.live {h h' : Heap} (c : Cut h h') {β : Map} {b : Nat} : live β h' b ↔ live β h b := by
  constructor
  · rintro ⟨k, B, h1, h2, h3⟩
    obtain ⟨B2, g1, _, g3, _⟩ := c.back h1
    exact ⟨k, B2, g1, g3 ▸ h2, h3⟩
  · rintro ⟨k, B, h1, h2, h3⟩
    obtain ⟨B2, g1, _, g3, _⟩ := c.at_ k B h1
    exact ⟨k, B2, g1, g3.trans h2, h3⟩
theorem Cut.evo {h h' : Heap} (c : Cut h h') (w : World) (β : Map) : Evo w β h w β h' :=
  ⟨rfl, rfl, rfl, Nat.le_refl _, by rw [c.len]; exact Nat.le_refl _, fun _ _ => rfl, fun _ _ _ => rfl, fun _ C _ m e => ⟨C, m, e, rfl⟩, fun _ _ l => c.live.1 l, rfl⟩
theorem Cut.heap {h h' : Heap} (c : Cut h h') {w : World} {β : Map} (hh : HeapRel w β h) : HeapRel w β h' := by
  refine ⟨fun k B b h1 h2 h3 => ?_, fun k B h1 h2 h3 => ?_, fun j k B B' b h1 h2 h3 h4 h5 h6 => ?_, fun k B b h1 h2 h3 => ?_, hh.bound⟩
  · obtain ⟨B2, g1, g2, g3, t, g4⟩ := c.back h1
    obtain ⟨C, e1, e2, e3⟩ := hh.blk k B2 b g1 (g3 ▸ h2) h3
    refine ⟨C, g2 ▸ e1, by rw [g4, List.length_append] at e2; omega, fun i d hd => ?_⟩
    have : B2.cells[i]? = some d := by rw [g4, List.getElem?_append_left (List.getElem?_eq_some_iff.1 hd).1]; exact hd
    exact ⟨(e3 i d this).1, (e3 i d this).2.mono (c.evo w β)⟩
  · obtain ⟨B2, g1, g2, g3, t, g4⟩ := c.back h1
    have := hh.none k B2 g1 (g3 ▸ h2) h3
    rw [g4] at this
    exact (List.append_eq_nil_iff.1 this).1
  · obtain ⟨B2, g1, _, g3, _⟩ := c.back h1
    obtain ⟨B3, i1, _, i3, _⟩ := c.back h2
    exact hh.inj j k B2 B3 b g1 i1 (g3 ▸ h3) (i3 ▸ h4) h5 h6
  · obtain ⟨B2, g1, _, g3, _⟩ := c.back h1
    exact hh.avoid k B2 b g1 (g3 ▸ h2) h3
theorem VCalls.cut {P : Program} {g : FuncId} {args : List DV} {h : Heap} {R R' : DV → Heap → Prop} (c : VCalls P g args h R) (hr : ∀ r h', R r h' → ∃ h'', Cut h' h'' ∧ R' r h'') : VCalls P g args h R' :=
  ⟨fun w β vs hh ha => (c.run w β vs hh ha).mono fun _ w' ⟨v, r, h', β', e1, ev, hh', hd, hR⟩ => by
    obtain ⟨h'', hc, hR'⟩ := hr r h' hR
    exact ⟨v, r, h'', β', e1, ev.trans (hc.evo w' β'), hc.heap hh', hd.mono (hc.evo w' β'), hR'⟩⟩
theorem Cut.refl (h : Heap) : Cut h h := ⟨rfl, fun k B hk => ⟨B, hk, rfl, rfl, [], by simp⟩⟩
theorem Cut.last (h : Heap) (T : TypeId) (b : Bool) (cs t : List DV) : Cut (h ++ [⟨T, b, cs ++ t⟩]) (h ++ [⟨T, b, cs⟩]) := by
  refine ⟨by simp, fun k B hk => ?_⟩
  rcases Nat.lt_trichotomy k h.length with hlt | heq | hgt
  · rw [List.getElem?_append_left hlt] at hk ⊢
    exact ⟨B, hk, rfl, rfl, [], by simp⟩
  · subst heq
    simp only [List.getElem?_concat_length, Option.some.injEq] at hk ⊢
    subst hk
    exact ⟨_, rfl, rfl, rfl, t, rfl⟩
  · rw [List.getElem?_eq_none (by simp; omega)] at hk; cases hk
/-- A new slice whose block goes on behind it. -/
theorem VCalls.newSl_cut {P : Program} {g : FuncId} {args : List DV} {h : Heap} {kp : Nat → Bool} {sz n : Nat} {T : TypeId} {cs t : List DV} (c : VCalls P g args h (NewSl kp h sz n T (cs ++ t))) : VCalls P g args h (NewSl kp h sz n T cs) :=
  c.cut fun r h' e => by
    obtain ⟨rfl, rfl⟩ := e
    exact ⟨_, Cut.last _ T true cs t, rfl, rfl⟩
end Go.V

/-
  V, part 39: blocks that a call was given are its own: they get numbers behind those of the caller, where theirs die.
-/
namespace Go.V
open Go

/-- Dead blocks in place of the caller's, then the blocks 'keep' alone, in that order. -/
structure Gm (keep : List Nat) (S S' : St) : Prop where
  nt : S'.nt = S.nt
  base : S'.base = S.base
  low : ∀ k, k < S.base → ∃ B, S'.hp[k]? = some B ∧ B.live = false
  nodup : keep.Nodup
  len : S'.hp.length = S.base + keep.length
  hp : ∀ (i k : Nat), keep[i]? = some k → ∃ B B', S.hp[k]? = some B ∧ S'.hp[S.base + i]? = some B' ∧ B'.ty = B.ty ∧ B'.live = B.live ∧ B'.cells = B.cells.map (DV.ren fun k => S.base + keep.idxOf k) ∧ (B.live = true → DV.nums.go keep.contains B.cells = true)
  tm : ∀ t, V.look S'.tm t = .any ∨ (V.look S'.tm t = (V.look S.tm t).ren (fun k => S.base + keep.idxOf k) ∧ (V.look S.tm t).nums keep.contains = true)

theorem Sim.gm {O : Org} {β : Map} {S S' : St} {a : Act} {w : World} {keep : List Nat} (h : Sim O β S a w) (g : Gm keep S S') : ∃ β', Sim O β' S' a w := by
  let β' : Map := ⟨fun i => if i < S.base then β.f i else (keep[i - S.base]?).bind β.f, β.X⟩
  have hO : O.hp.length = S.base := h.base
  have back : ∀ {i : Nat} {B' : Blk}, S'.hp[i]? = some B' → B'.live = true → ∃ k B, S.base ≤ i ∧ keep[i - S.base]? = some k ∧ S.hp[k]? = some B ∧ B'.ty = B.ty ∧ B'.live = B.live ∧ B'.cells = B.cells.map (DV.ren fun k => S.base + keep.idxOf k) ∧ (B.live = true → DV.nums.go keep.contains B.cells = true) ∧ β'.f i = β.f k := by
    intro i B' hi hl
    have hge : S.base ≤ i := by
      rcases Nat.lt_or_ge i S.base with hlt | hge
      · obtain ⟨B, h1, h2⟩ := g.low i hlt
        rw [hi] at h1; cases h1; rw [hl] at h2; cases h2
      · exact hge
    have hlt : i - S.base < keep.length := by have := (List.getElem?_eq_some_iff.1 hi).1; rw [g.len] at this; omega
    have hk : keep[i - S.base]? = some keep[i - S.base] := List.getElem?_eq_getElem hlt
    obtain ⟨B, B'', h1, h2, h3, h4, h5, h6⟩ := g.hp _ _ hk
    rw [show S.base + (i - S.base) = i by omega, hi] at h2
    cases h2
    exact ⟨_, B, hge, hk, h1, h3, h4, h5, h6, by simp [β', hk]; omega⟩
  have hsub : ∀ b, live β' S'.hp b → live β S.hp b := by
    rintro b ⟨i, B', h1, h2, h3⟩
    obtain ⟨k, B, _, _, k2, _, k4, _, _, k7⟩ := back h1 h2
    exact ⟨k, B, k2, by rw [← k4]; exact h2, by rw [← k7]; exact h3⟩
  have him : ∀ b, img β' S'.hp b → img β S.hp b := fun b hb => hb.imp id (hsub b)
  have hσ : ∀ k, keep.contains k = true → k < S.hp.length → S.base + keep.idxOf k < S'.hp.length ∧ β'.f (S.base + keep.idxOf k) = β.f k := by
    intro k hk _
    have hm : k ∈ keep := by simpa using hk
    have hlt := List.idxOf_lt_length_of_mem hm
    refine ⟨by rw [g.len]; omega, ?_⟩
    have hnl : ¬ S.base + List.idxOf k keep < S.base := by omega
    simp [β', List.getElem?_eq_getElem hlt, hnl]
  refine ⟨β', h.defers, by rw [g.nt]; exact h.size, fun t => ?_, ?_, ?_, h.base.trans g.base.symm⟩
  · rcases g.tm t with e | ⟨e, hn⟩
    · rw [e]; exact .any _
    · rw [e]; exact RelD.ren hσ him (h.tm t) hn
  · have hh := h.heap
    refine ⟨fun i B' b h1 h2 h3 => ?_, fun i B' h1 h2 h3 => ?_, fun i j B B' b h1 h2 h3 h4 h5 h6 => ?_, fun i B' b h1 h2 h3 => ?_, hh.bound⟩
    · obtain ⟨k, B, _, k1, k2, k3, k4, k5, k6, k7⟩ := back h1 h2
      rw [k7] at h3
      have hl : B.live = true := by rw [← k4]; exact h2
      obtain ⟨C, c1, c2, c3⟩ := hh.blk k B b k2 hl h3
      refine ⟨C, by rw [k3]; exact c1, by rw [k5, List.length_map]; exact c2, fun j d hd => ?_⟩
      rw [k5, List.getElem?_map] at hd
      cases hx : B.cells[j]? with
      | none => simp [hx] at hd
      | some x =>
        simp [hx] at hd
        subst hd
        obtain ⟨o1, o2⟩ := c3 j x hx
        refine ⟨?_, RelD.ren hσ him o2 (DV.nums_go (k6 hl) j x hx)⟩
        cases x <;> first | rfl | exact o1
    · obtain ⟨k, B, _, k1, k2, k3, k4, k5, k6, k7⟩ := back h1 h2
      rw [k7] at h3
      rw [k5, hh.none k B k2 (by rw [← k4]; exact h2) h3]; rfl
    · obtain ⟨k, D, g1, k1, k2, k3, k4, k5, k6, k7⟩ := back h1 h3
      obtain ⟨k', D', g2, l1, l2, l3, l4, l5, l6, l7⟩ := back h2 h4
      rw [k7] at h5
      rw [l7] at h6
      have := hh.inj k k' D D' b k2 l2 (by rw [← k4]; exact h3) (by rw [← l4]; exact h4) h5 h6
      subst this
      obtain ⟨hi, e1⟩ := List.getElem?_eq_some_iff.1 k1
      obtain ⟨hj, e2⟩ := List.getElem?_eq_some_iff.1 l1
      have := (List.getElem_inj g.nodup).1 (e1.trans e2.symm)
      omega
    · obtain ⟨k, B, _, k1, k2, k3, k4, k5, k6, k7⟩ := back h1 h2
      rw [k7] at h3
      exact hh.avoid k B b k2 (by rw [← k4]; exact h2) h3
  · have ev := h.evo
    have hlow : ∀ k, k < O.hp.length → β'.f k = β.f k := fun k hk => by simp [β', show k < S.base by omega]
    exact ⟨ev.os, ev.tape, ev.output, ev.size, by rw [g.len]; omega, fun k hk => (hlow k hk).trans (ev.beta k hk), ev.same, ev.shape, fun b hb hl => ev.im b hb (hsub b hl), ev.X⟩

def tmGm (n : Nat) (keep : List Nat) (tm : List (Nat × DV)) : List (Nat × DV) → Prop
  | [] => True
  | (t, d) :: r => (d = (V.look tm t).ren (fun k => n + keep.idxOf k) ∧ (V.look tm t).nums keep.contains = true) ∧ tmGm n keep tm r
theorem tmGm_look {n : Nat} {keep : List Nat} {tm : List (Nat × DV)} : ∀ {tm' : List (Nat × DV)}, tmGm n keep tm tm' → ∀ t, V.look tm' t = .any ∨ (V.look tm' t = (V.look tm t).ren (fun k => n + keep.idxOf k) ∧ (V.look tm t).nums keep.contains = true)
  | [], _, t => .inl rfl
  | (a, d) :: r, h, t => by
    simp only [V.look]
    split
    · rename_i e; subst e; exact .inr h.1
    · exact tmGm_look h.2 t
def cellsGm (n : Nat) (keep : List Nat) (cs cs' : List DV) : Prop := (DV.nums.go (fun _ => false) cs = true ∧ cs' = cs) ∨ (cs' = cs.map (DV.ren fun k => n + keep.idxOf k) ∧ DV.nums.go keep.contains cs = true)
def hpGm (n : Nat) (keep : List Nat) (hp : Heap) : List Nat → Heap → Prop
  | [], [] => True
  | k :: r, B' :: r' => (∃ B, hp[k]? = some B ∧ B'.ty = B.ty ∧ B'.live = B.live ∧ cellsGm n keep B.cells B'.cells) ∧ hpGm n keep hp r r'
  | _, _ => False
theorem hpGm_get {n : Nat} {keep : List Nat} {hp : Heap} : ∀ {l : List Nat} {hp' : Heap}, hpGm n keep hp l hp' → hp'.length = l.length ∧ ∀ (i k : Nat), l[i]? = some k → ∃ B B', hp[k]? = some B ∧ hp'[i]? = some B' ∧ B'.ty = B.ty ∧ B'.live = B.live ∧ B'.cells = B.cells.map (DV.ren fun k => n + keep.idxOf k) ∧ (B.live = true → DV.nums.go keep.contains B.cells = true)
  | [], [], _ => ⟨rfl, fun i k h => by simp at h⟩
  | [], _ :: _, h => h.elim
  | _ :: _, [], h => h.elim
  | k0 :: r, B' :: r', h => by
    obtain ⟨⟨B, h1, h2, h3, h4⟩, h5⟩ := h
    obtain ⟨g1, g2⟩ := hpGm_get h5
    refine ⟨by simp [g1], fun i k hk => ?_⟩
    cases i with
    | zero =>
      simp at hk
      subst hk
      refine ⟨B, B', h1, rfl, h2, h3, ?_⟩
      rcases h4 with ⟨n, e⟩ | ⟨e, n⟩
      · exact ⟨by rw [e, ← DV.ren_go, ren_id_go _ _ n], fun _ => nums_mono_go _ _ n⟩
      · exact ⟨e, fun _ => n⟩
    | succ i => exact g2 i k (by simpa using hk)

/-- Dead blocks. -/
def deadL : List TypeId → Heap := List.map fun T => ⟨T, false, []⟩
/-- A loop before which what the call was given becomes its own. -/
theorem VWp.move {P : Program} {c : Code} {Q : Exit → St → Prop} {S : St} (keep : List Nat) (Ts : List TypeId) (tm' : List (Nat × DV)) (hp' : Heap) (hb : Ts.length = S.base) (hn : keep.Nodup) (hh : hpGm S.base keep S.hp keep hp') (ht : tmGm S.base keep S.tm tm') (h : VWp P c Q ⟨S.nt, S.base, tm', deadL Ts ++ hp'⟩) : VWp P c Q S := fun O β a w hs => by
  obtain ⟨g1, g2⟩ := hpGm_get hh
  have hl : (deadL Ts).length = S.base := by simp [deadL, hb]
  obtain ⟨β', h'⟩ := hs.gm (keep := keep) (S' := ⟨S.nt, S.base, tm', deadL Ts ++ hp'⟩) ⟨rfl, rfl, fun k hk => by
    have hlt : k < (deadL Ts).length := by omega
    refine ⟨(deadL Ts)[k], by show (deadL Ts ++ hp')[k]? = _; rw [List.getElem?_append_left hlt, List.getElem?_eq_getElem hlt], by simp [deadL]⟩, hn, by show (deadL Ts ++ hp').length = _; rw [List.length_append, hl, g1], fun i k hk => by
    obtain ⟨B, B', e1, e2, e3⟩ := g2 i k hk
    exact ⟨B, B', e1, by show (deadL Ts ++ hp')[S.base + i]? = _; rw [List.getElem?_append_right (by omega), hl, show S.base + i - S.base = i by omega]; exact e2, e3⟩, tmGm_look ht⟩
  exact h O β' a w h'
theorem VLoop.move {P : Program} {c : Code} {Q : Exit → St → Prop} {S : St} (keep : List Nat) (Ts : List TypeId) (tm' : List (Nat × DV)) (hp' : Heap) (hb : Ts.length = S.base) (hn : keep.Nodup) (hh : hpGm S.base keep S.hp keep hp') (ht : tmGm S.base keep S.tm tm') (h : VLoop P c Q ⟨S.nt, S.base, tm', deadL Ts ++ hp'⟩) : VLoop P c Q S := VWp.move keep Ts tm' hp' hb hn hh ht h
end Go.V

/-
  V, part 40: between two rounds of a loop the own slices of a call may be read out, and their blocks left behind.
-/
namespace Go.V
open Go

/-- The slots that are still looked at, read out. -/
def tmFz (n : Nat) (hp : Heap) (tm : List (Nat × DV)) : List (Nat × DV) → Prop
  | [] => True
  | (t, d) :: r => frz n hp (V.look tm t) = some d ∧ tmFz n hp tm r
theorem tmFz_look {n : Nat} {hp : Heap} {tm : List (Nat × DV)} : ∀ {tm' : List (Nat × DV)}, tmFz n hp tm tm' → ∀ t, V.look tm' t = .any ∨ frz n hp (V.look tm t) = some (V.look tm' t)
  | [], _, t => .inl rfl
  | (a, d) :: r, h, t => by
    simp only [V.look]
    split
    · rename_i e; subst e; exact .inr h.1
    · exact tmFz_look h.2 t
structure Fz (S S' : St) : Prop where
  nt : S'.nt = S.nt
  base : S'.base = S.base
  hp : frzHeap S.base S.hp = some S'.hp
  tm : tmFz S.base S.hp S.tm S'.tm
theorem Sim.fz {O : Org} {β : Map} {S S' : St} {a : Act} {w : World} (h : Sim O β S a w) (g : Fz S S') : Sim O β S' a w := by
  have hn : S.base ≤ S.hp.length := by rw [← h.base]; exact h.evo.len
  have one : ∀ {d : DV} {v : Value} {d' : DV}, RelD w β S.hp d v → frz S.base S.hp d = some d' → RelD w β S'.hp d' v ∧ HeapRel w β S'.hp ∧ S'.hp.length = S.base ∧ ∀ b, live β S'.hp b → live β S.hp b := by
    intro d v d' hd hf
    obtain ⟨e, hp', ⟨r1, r2⟩, k2, k3, k4, k5⟩ := vend_sound h.heap hn hd (R := fun e hp' => e = d' ∧ hp' = S'.hp) (by unfold VEnd; rw [hf, g.hp]; exact ⟨rfl, rfl⟩)
    subst r1 r2
    exact ⟨k2, k3, k4, k5⟩
  obtain ⟨_, k3, k4, k5⟩ := one (d := .any) (v := undef) (d' := .any) (.any _) rfl
  refine ⟨h.defers, by rw [g.nt]; exact h.size, fun t => ?_, k3, ?_, h.base.trans g.base.symm⟩
  · rcases tmFz_look g.tm t with e | e
    · rw [e]; exact .any _
    · exact (one (h.tm t) e).1
  · have ev := h.evo
    exact ⟨ev.os, ev.tape, ev.output, ev.size, by rw [k4, ← h.base]; exact Nat.le_refl _, ev.beta, ev.same, ev.shape, fun b hb hl => ev.im b hb (k5 b hl), ev.X⟩
theorem VWp.fz {P : Program} {c : Code} {Q : Exit → St → Prop} {S : St} (S' : St) (g : Fz S S') (h : VWp P c Q S') : VWp P c Q S := fun O β a w hs => h O β a w (hs.fz g)
theorem VLoop.fz {P : Program} {c : Code} {Q : Exit → St → Prop} {S : St} (S' : St) (g : Fz S S') (h : VLoop P c Q S') : VLoop P c Q S := VWp.fz S' g h
end Go.V

/-
  V, part 41: blocks given away for good with a call: the callee may keep what they hold in its answer.
-/
namespace Go.V
open Go

/-- All blocks of the caller are read out, and left behind. -/
theorem VCalls.giveA {P : Program} {g : FuncId} {args args0 : List DV} {hp : Heap} {R : DV → Prop} (ha : allSome (args.map (frzA hp)) = some args0) (c : VCalls P g args0 [] fun r h' => h' = [] ∧ r.nums (fun _ => false) = true ∧ R r) :
    VCalls P g args hp fun r h' => h' = hp.map (fun B => ⟨B.ty, false, []⟩) ∧ R r := by
  refine ⟨fun w β vs hh hr => ?_⟩
  let βc : Map := ⟨fun _ => none, β.X⟩
  have himc : ∀ b, img βc [] b → β.X b := fun b hb => by
    rcases hb with hb | ⟨i, D, h1, _⟩
    · exact hb
    · simp at h1
  have hlv : Leaves w β hp 0 (img βc []) := ⟨fun b hb => .inl (himc b hb), fun k B b _ h1 h2 h3 hb => hh.avoid k B b h1 h2 h3 (himc b hb)⟩
  have hhc : HeapRel w βc [] := ⟨by simp, by simp, by simp, by simp, hh.bound⟩
  obtain ⟨a1, a2⟩ := allSome_get ha
  have hargs : RelL w βc [] args0 vs := by
    refine ⟨by rw [a1]; simpa using hr.1, fun i d hd => ?_⟩
    have h3 := a2 i d hd
    rw [List.getElem?_map] at h3
    obtain ⟨x, x1, x2⟩ := map_eq h3
    exact frzA_sound hh hlv (hr.2 i x x1) x2
  refine (c.run w βc vs hhc hargs).mono ?_
  rintro e w' ⟨v, r, h', β', rfl, ev, hh', hrel, rfl, hf, hR⟩
  have heap_same : ∀ b, b < w.heap.size → w'.heap[b]? = w.heap[b]? := fun b hb => ev.same b hb (by rintro ⟨k, B, h1, _⟩; simp at h1)
  have dead : ∀ (k : Nat) (B : Blk), (hp.map (fun B => (⟨B.ty, false, []⟩ : Blk)))[k]? = some B → B.live = false := fun k B hk => by
    rw [List.getElem?_map] at hk
    obtain ⟨x, _, x2⟩ := map_eq hk
    subst x2; rfl
  have nolive : ∀ b, ¬ live β (hp.map (fun B => (⟨B.ty, false, []⟩ : Blk))) b := by
    rintro b ⟨k, B, h1, h2, _⟩
    rw [dead k B h1] at h2; cases h2
  have e : Evo w β hp w' β (hp.map (fun B => ⟨B.ty, false, []⟩)) := ⟨ev.os, ev.tape, ev.output, ev.size, by simp, fun _ _ => rfl, fun b hb _ => heap_same b hb, fun b C T m h => ⟨C, m, by rw [heap_same b (Array.getElem?_eq_some_iff.1 h).1]; exact h, rfl⟩, fun b _ h => absurd h (nolive b), rfl⟩
  refine ⟨v, r, _, β, rfl, e, ?_, hrel.closed hf ?_, rfl, hR⟩
  · refine ⟨fun k B b h1 h2 h3 => ?_, fun k B h1 h2 h3 => ?_, fun i j B B' b h1 h2 h3 => ?_, fun k B b h1 h2 h3 => ?_, fun b hb => Nat.lt_of_lt_of_le (hh.bound b hb) ev.size⟩
    · rw [dead k B h1] at h2; cases h2
    · rw [dead k B h1] at h2; cases h2
    · rw [dead i B h1] at h3; cases h3
    · rw [dead k B h1] at h2; cases h2
  · rintro b (hb | hb)
    · exact .inl (by rw [ev.X]; exact hb)
    · exact absurd hb (nolive b)

theorem behind_kills {hp : Heap} {sel : List Nat} (hlt : ∀ k ∈ sel, k < hp.length) : behind hp sel ((sel.map fun k => hp.getD k default).map (fun B => ⟨B.ty, false, []⟩)) = kills hp sel := by
  unfold behind
  rw [List.drop_of_length_le (by simp), List.map_nil, List.append_nil]
  apply List.ext_getElem?
  intro k
  rw [kills_at, List.getElem?_map]
  by_cases hk : k < hp.length
  · rw [List.getElem?_range hk, Option.map_some]
    have hget : hp[k]? = some hp[k] := List.getElem?_eq_getElem hk
    by_cases hm : k ∈ sel
    · have hc : sel.contains k = true := by simpa using hm
      have hi := List.idxOf_lt_length_of_mem hm
      rw [if_pos hc, if_pos hm, hget, Option.map_some]
      congr 1
      rw [List.getD_eq_getElem?_getD, List.getElem?_map, List.getElem?_map, List.getElem?_eq_getElem hi]
      simp [renB, hget]
    · have hc : sel.contains k = false := by simpa using hm
      rw [if_neg (by rw [hc]; simp), if_neg hm, List.getD_eq_getElem?_getD, hget]; rfl
  · rw [List.getElem?_eq_none (l := List.range hp.length) (by simpa using hk), List.getElem?_eq_none (l := hp) (by omega)]
    simp

/-- A call to which some blocks are given for good. -/
theorem vc_giveA {P : Program} {g : FuncId} {args args0 : List DV} {hp : Heap} {K : DV → Heap → Prop} {d : DV} (sel : List Nat) (args1 : List DV) (h0 : Heap) (c : VCalls P g args0 [] (Ret d)) (hh0 : h0 = sel.map fun k => hp.getD k default) (hpl : plainL hp sel) (hnd : sel.Nodup)
    (ha1 : args1 = args.map (DV.ren fun j => sel.idxOf j)) (ha : DV.nums.go sel.contains args = true) (hf : allSome (args1.map (frzA h0)) = some args0)
    (h : K d (kills hp sel)) : VCalls P g args hp K := by
  subst hh0
  have c1 := VCalls.giveA (R := fun r => r.nums (fun _ => false) = true ∧ r = d) hf (c.mono fun r h' e => ⟨e.1, e.2.1, e.2⟩)
  refine (VCalls.frame sel hnd (lentTo_plain hpl) (lentOk_plain hpl) c1 ha1 ha).mono ?_
  rintro r h2 ⟨r0, h', ⟨rfl, hn, rfl⟩, _, rfl, rfl⟩
  rw [behind_kills fun k hk => (plainL_get hpl k hk).1, ren_id _ _ hn]
  exact h
end Go.V

/-
  V, part 42: a nil slice in a cell as a slice of the call's own.
-/
namespace Go.V
open Go

end Go.V

/-
  V, part 43: a whole state weakened: slices whose capacity is known become slices.
-/
namespace Go.V
open Go

def Blk.wk (B : Blk) : Blk := ⟨B.ty, B.live, DV.wk.go B.cells⟩
def tmwk (tm : List (Nat × DV)) : List (Nat × DV) := tm.map fun p => (p.1, p.2.wk)
def hpwk (hp : Heap) : Heap := hp.map Blk.wk
theorem DV.wk_one (d : DV) (h : d.one = true) : d.wk.one = true := by
  cases d <;> first | rfl | (simp [DV.one] at h)
theorem look_wk : ∀ (tm : List (Nat × DV)) (t : Nat), look (tmwk tm) t = (look tm t).wk
  | [], _ => rfl
  | (u, d) :: r, t => by
    simp only [tmwk, List.map_cons, look]
    split
    · rfl
    · exact look_wk r t
theorem sim_wk {O : Org} {β : Map} {S : St} {a : Act} {w : World} (h : Sim O β S a w) : Sim O β ⟨S.nt, S.base, tmwk S.tm, hpwk S.hp⟩ a w := by
  have at_ : ∀ {i : Nat} {D : Blk}, (hpwk S.hp)[i]? = some D → ∃ D0, S.hp[i]? = some D0 ∧ D = D0.wk := by
    intro i D hi
    rw [hpwk, List.getElem?_map] at hi
    obtain ⟨x, h1, h2⟩ := map_eq hi
    exact ⟨x, h1, h2.symm⟩
  have lv : ∀ b, live β (hpwk S.hp) b → live β S.hp b := by
    rintro b ⟨i, D, g1, g2, g3⟩
    obtain ⟨D0, e1, rfl⟩ := at_ g1
    exact ⟨i, D0, e1, g2, g3⟩
  have e : Evo w β S.hp w β (hpwk S.hp) :=
    ⟨rfl, rfl, rfl, Nat.le_refl _, by simp [hpwk], fun _ _ => rfl, fun _ _ _ => rfl, fun _ C _ m h => ⟨C, m, h, rfl⟩, fun b _ hb => lv b hb, rfl⟩
  have hh := h.heap
  refine ⟨h.defers, h.size, fun t => by show RelD w β (hpwk S.hp) (look (tmwk S.tm) t) _; rw [look_wk]; exact ((h.tm t).mono e).wk, ?_, h.evo.trans e, h.base⟩
  refine ⟨fun i D b g1 g2 g3 => ?_, fun i D g1 g2 g3 => ?_, fun i i2 D D2 b g1 g2 g3 g4 g5 g6 => ?_, fun i D b g1 g2 g3 => ?_, hh.bound⟩
  · obtain ⟨D0, e1, rfl⟩ := at_ g1
    obtain ⟨C, c1, c2, c3⟩ := hh.blk i D0 b e1 g2 g3
    refine ⟨C, c1, by show (DV.wk.go D0.cells).length ≤ _; rw [wk_go_map, List.length_map]; exact c2, fun n x hx => ?_⟩
    have hx2 : (DV.wk.go D0.cells)[n]? = some x := hx
    rw [wk_go_map, List.getElem?_map] at hx2
    obtain ⟨y, h1, h2⟩ := map_eq hx2
    subst h2
    exact ⟨DV.wk_one _ (c3 n y h1).1, ((c3 n y h1).2.mono e).wk⟩
  · obtain ⟨D0, e1, rfl⟩ := at_ g1
    have := hh.none i D0 e1 g2 g3
    show DV.wk.go D0.cells = []
    rw [this]; rfl
  · obtain ⟨D0, e1, rfl⟩ := at_ g1
    obtain ⟨D1, f1, rfl⟩ := at_ g2
    exact hh.inj i i2 D0 D1 b e1 f1 g3 g4 g5 g6
  · obtain ⟨D0, e1, rfl⟩ := at_ g1
    exact hh.avoid i D0 b e1 g2 g3
end Go.V

/-
  X: of a call's blocks those from a number on are read out and left behind; the others stay.
-/
namespace Go.V
open Go

structure FzN (n : Nat) (S S' : St) : Prop where
  nt : S'.nt = S.nt
  base : S'.base = S.base
  lo : S.base ≤ n
  hi : n ≤ S.hp.length
  hp : frzHeap n S.hp = some S'.hp
  tm : tmFz n S.hp S.tm S'.tm
end Go.V
namespace Go.V
/-- What is asked for fits into a machine. -/
theorem mem_ok {n : Nat} (h : n ≤ 140737488355328) : (n ≤ 140737488355328) = True := eq_true h
end Go.V
namespace Go.V
theorem vslk_fz {α : Type} (e : Enc α) (l : List α) (T : TypeId) (a b : Nat) (h : a ≤ b ∧ b ≤ l.length) : vslk (some (none, T, e.sz)) (fz e l) a b = some (.pv (.sl (fz e ((l.take b).drop a)))) := by
  have h1 : fz e l = [] ∨ (fz e l)[0]?.map List.length = some e.sz := by
    cases l with
    | nil => exact .inl rfl
    | cons x r => exact .inr (fz_has e (x :: r) (by simp))
  simp only [vslk]
  rw [if_pos ⟨h.1, by rw [fz_len]; exact h.2, h1⟩, fz_take, fz_drop]
end Go.V
namespace Go.V
theorem fz_src {α : Type} (e : Enc α) (l : List α) : (fz e l = [] ∨ (fz e l)[0]?.map List.length = some e.sz) = True := by
  refine eq_true ?_
  cases l with
  | nil => exact .inl rfl
  | cons x r => exact .inr (fz_has e (x :: r) (by simp))
end Go.V

/-
  X, the last part: what the simplifier reckons with.
-/
namespace Go.V
open Go
attribute [go_sem ↓] look_cons vlook_t vlook_f vrun_nil vdr_nil code_skip code_region code_draw code_seq code_block code_loop code_exit code_ret onNormal_normal onNormal_ret onNormal_exit onBlock_normal onBlock_ret onBlock_exit vrun_cons run1_some runG_true runG_false run2_none run2_some run3_some runK_eq vdr_cons dr1_some drG_true drG_false dr2_none dr3_some code_cond vtest_bool vbr_true vbr_false vpost_ret keep_normal keep_ret vsp_nil vsp_cons vspK_eq
attribute [go_sem] vop_move vcallee_move okKind_move foot_move vop_assign vcallee_assign okKind_assign foot_assign vop_pick vcallee_pick okKind_pick foot_pick vop_alloc vcallee_alloc vop_box vcallee_box vop_build vcallee_build foot_build vop_buildSlice vcallee_buildSlice vop_load vcallee_load okKind_load vop_store vcallee_store vop_nilCheck vcallee_nilCheck okKind_nilCheck foot_nilCheck vop_binOp vcallee_binOp okKind_binOp foot_binOp vop_unOp vcallee_unOp vop_convert vcallee_convert okKind_convert vop_makeFunc vcallee_makeFunc vop_slice vcallee_slice okKind_slice vop_fieldAddr vcallee_fieldAddr okKind_fieldAddr foot_fieldAddr vop_indexAddr vcallee_indexAddr okKind_indexAddr foot_indexAddr vop_index vcallee_index foot_index vop_extract vcallee_extract foot_extract foot_load foot_convert foot_slice foot_call okKind_len vop_builtin vcallee_builtin vcallee_value vcal_fn ptrNo_ptr ptrNo_ip conv_pv frz1_fn bin2_tmp bin2_int bin2_str bin2_ptr bin2_nil vnilT_sl vnilc_eql isNil_lit vcl2_some vcl3_some bi_clear cl2_own cl2_ownc conv_own conv_ptr bi_sdata bi_ustr bin_pn bin_nn bin_pp ownNo_pv vnil_ptr vpick_bool strip_pv strip_ptr strip_own strip_ip strip_agg strip_tup strip_fn strip_opt vstr_true optV_none optV_some pickV_bool ev_tmp ev_const ev_func ofConst_int ofConst_bool ofConst_string ofConst_slice put_some put_none at_mk fits_some fits_none guard_none guard_some vgof_bool vgof_opt vgof_skip frz_agg frz_pv strip_ownc frz_own frz_tup frzT_agg frzT_pv frzT_own frz1_pv frz1_own allSome_nil allSome_cons frzHeap_zero res_one res_two vres_tmp vres_cell load_ptr load_ip vld_one vld_agg vldp_one vldp_agg store_ptr vst_one vst_agg blk_zero blk_succ set_zero set_succ box_eq alloc_eq val1_some allOne_nil allOne_cons one_pv one_ptr one_own one_fn faddr_ptr vfap_some faddr_ip vfai_some vpart_eq vpt_agg iaddr_sl vias_some iaddr_own viao_some index_agg viva_some index_str vivs_some bin_int bin_str int_add int_sub int_mul int_or int_xor int_eql int_neq int_lss int_leq int_gtr int_geq int_rem int_shl int_shr str_add str_eql str_neq un_not ext_tup len_sl vlk_sl len_own len_str vls_str bi_len bi_append ap2_pv ap2_own ap2_cc ap2_cz vapz1_some vslo_end bi_cap cap_ownc vck_sl cp2_oo cp2_oc cp2_co cp2_cc len_ownc slice_ownc slice_own_hi slice_own_lo slice_ownc_hi slice_ownc_lo slice_ownc_lohi slice_ownc_3 vslo0_some vslo_some vslc0_some vslc_some vslc3_some bi_copy parts_nil parts_cons enum_nil enum_cons okc_nil okc_none okc_other okc_one conv_int vci_int evG_eq vfin_some vfinK_some vfin2_some at_hp slice_pv slice_own frzHeap_one frzH1_some slice_sl_hi slice_sl_lo slice_str_hi slice_str_lo vslk_some vsls_some bin_bool vbb_neq bin_agg vba_eql pickV_f pickV_t ptrNo_tup pvs List.flatten_nil List.map_nil dcells vbuild vfill vbuildSlice slOf vsrc vbase vappend vcopy vappendC vcopyC srcL dstC V.kill kills vapz2 List.toList_toArray List.getElem?_cons_zero List.getElem?_cons_succ List.getElem?_nil List.length_cons List.length_nil List.map_cons List.cons_append List.nil_append List.append_nil List.take_succ_cons List.take_zero List.take_nil List.drop_succ_cons List.drop_zero List.drop_nil List.set_cons_zero List.set_cons_succ List.any_nil List.any_cons Option.map_some Option.map_none Option.bind_some Option.getD_some Bool.false_eq_true Int.toNat_natCast Nat.zero_add Nat.add_zero Nat.zero_mul Nat.mul_one Nat.one_mul decide_true decide_false true_and and_true and_self false_and and_false true_or or_true or_false false_or or_self not_true_eq_false not_false_eq_true ne_eq Bool.not_true Bool.not_false Bool.or_true Bool.true_or Bool.or_false Bool.false_or Bool.and_true Bool.true_and Bool.and_false Bool.false_and Bool.or_self Bool.and_self Bool.not_not b_beq_t b_beq_f cond_true cond_false Bool.cond_self beq_self_eq_true Nat.lt_irrefl Nat.le_refl vspC_true vspR_eq pick_nil pick_cons pickO_some creas_nil creas_cons creaOk_eq creaM_ptr creaM_own creaOk2_some agree_nil agree_cons agree1_some sameAt_nil sameAt_cons Op.operands ptrNo_pv frzP_own frzP_pv fz_len cellsU_len fz_flat RetW DV.wk DV.wk.go PV.wk wk_I frzA_agg frzA_ownE frzB_ownE frzA_pv frzB_pv frzA_fn frzF_some frzB_ptrE frzQ_some wrap_i64_in wrap_u8_in dec_t dec_f int_beq_t int_beq_f int_bne_t int_bne_f Ret DV.nums DV.nums.go
end Go.V

/-
  V, part 45: lists in place: what slices.Insert, Delete and their kin write, for any elements.
-/
namespace Go.V
open Go
/-- x[:n:n] at a slice that nobody writes. -/
def vslk3 (e : Option (Option Nat × TypeId × Nat)) (xs : List (List PV)) (a b c : Nat) : Option DV :=
  match e with
  | some (none, _, sz) => if a ≤ b ∧ b = c ∧ b ≤ xs.length ∧ (xs = [] ∨ (xs[0]?.map List.length) = some sz) then some (.pv (.slc ((xs.take b).drop a))) else none
  | _ => none
theorem slice_sl_3 {P : Program} {T : TypeId} {k2 k3 : IntKind} {j m : Int} {xs : List (List PV)} (h1 : 0 ≤ j) (h2 : 0 ≤ m) : vslice P T (.pv (.sl xs)) none (some (.pv (.lit (.int k2 j)))) (some (.pv (.lit (.int k3 m)))) = vslk3 (velem P T) xs 0 j.toNat m.toNat := by
  unfold vslice vslk3
  rcases velem P T with _ | ⟨_ | n, t, sz⟩ <;> simp [slOf, loOf, hiOf, h1, h2]
theorem vslk3_fz {α : Type} (e : Enc α) (l : List α) (T : TypeId) : vslk3 (some (none, T, e.sz)) (fz e l) 0 l.length l.length = some (.pv (.slc (fz e l))) := by
  unfold vslk3
  have h := fz_src e l
  simp only [fz_len, Nat.zero_le, Nat.le_refl, h, and_self, if_true, List.drop_zero]
  rw [List.take_of_length_le (by rw [fz_len]; exact Nat.le_refl _)]
theorem vslk3_I {l : List Int} {T : TypeId} : vslk3 (some (none, T, 1)) (fz encI l) 0 l.length l.length = some (.pv (.slc (fz encI l))) := vslk3_fz encI l T
attribute [go_sem] slice_sl_3 vslk3_I
variable {α : Type} (e : Enc α)

theorem take_all (l : List α) (n : Nat) (h : n = l.length * e.sz) : (cells e l).take n = cells e l := by rw [List.take_of_length_le]; rw [cells_len]; omega
theorem ins_end (l : List α) (x : α) : cells e l ++ cells e [x] = cells e (l.take l.length ++ x :: l.drop l.length) := by
  rw [List.take_length, List.drop_length, ← cells_app]
theorem ins_tail (l : List α) (i : Nat) : ((cells e l).drop (i * e.sz)).take ((l.length - i) * e.sz) = cells e (l.drop i) := by
  rw [cells_drop, take_all]; rw [List.length_drop]
theorem ins_up (l : List α) (i : Nat) (h : i < l.length) : splice (cells e l) ((i + 1) * e.sz) (((cells e l).drop (i * e.sz)).take ((l.length - i) * e.sz)) = cells e (l.take (i + 1) ++ l.drop i) := by
  have e3 := splice_cells e l (l.drop i) (i + 1)
  rw [List.drop_of_length_le (i := i + 1 + (l.drop i).length) (by rw [List.length_drop]; omega), List.append_nil] at e3
  rw [ins_tail, e3]
theorem ins_in (l : List α) (x : α) (i : Nat) (h : i < l.length) : splice (cells e (l.take (i + 1) ++ l.drop i)) (i * e.sz) (cells e [x]) = cells e (l.take i ++ x :: l.drop i) := by
  have e3 := splice_cells e (l.take (i + 1) ++ l.drop i) [x] i
  have e1 : (l.take (i + 1) ++ l.drop i).take i = l.take i := by rw [List.take_append_of_le_length (by rw [List.length_take]; omega), List.take_take, Nat.min_eq_left (by omega)]
  have e2 : (l.take (i + 1) ++ l.drop i).drop (i + 1) = l.drop i := by rw [List.drop_append_of_le_length (by rw [List.length_take]; omega), List.drop_of_length_le (by rw [List.length_take]; omega), List.nil_append]
  rw [e1, show i + [x].length = i + 1 from rfl, e2, List.append_assoc] at e3
  exact e3
theorem ins_g2 (l : List α) (x : α) (i : Nat) (h : i < l.length) (Z : List DV) : splice (cells e (l.take i) ++ Z) (i * e.sz) (cells e [x]) = cells e (l.take i ++ [x]) ++ Z.drop e.sz := by
  have hl : (cells e (l.take i)).length = i * e.sz := by rw [cells_len, List.length_take, Nat.min_eq_left (by omega)]
  have h1 : (cells e [x]).length = e.sz := by rw [cells_len]; simp
  unfold splice
  rw [← hl, List.take_left' rfl, List.drop_length_add_append, h1, cells_app]
theorem ins_g3 (l : List α) (x : α) (i : Nat) (h : i < l.length) (Z : List DV) (hZ : Z.length = (l.length - i) * e.sz) : splice (cells e (l.take i ++ [x]) ++ Z) ((i + 1) * e.sz) (((cells e l).drop (i * e.sz)).take ((l.length - i) * e.sz)) = cells e (l.take i ++ x :: l.drop i) := by
  have hl : (cells e (l.take i ++ [x])).length = (i + 1) * e.sz := by rw [cells_len, List.length_append, List.length_take, Nat.min_eq_left (by omega)]; rfl
  have h1 : (cells e (l.drop i)).length = (l.length - i) * e.sz := by rw [cells_len, List.length_drop]
  rw [ins_tail]
  unfold splice
  have hz : Z.drop ((l.length - i) * e.sz) = [] := List.drop_of_length_le (by rw [hZ]; exact Nat.le_refl _)
  rw [← hl, List.take_left' rfl, List.drop_length_add_append, h1, hz, List.append_nil, ← cells_app]
  simp
theorem set_in (l : List α) (i : Nat) (x : α) (h : i < l.length) : splice (cells e l) (i * e.sz) ((e.enc x).map DV.pv) = cells e (l.set i x) := by
  have := splice_cells e l [x] i
  rw [List.set_eq_take_append_cons_drop, if_pos h]
  rw [show l.take i ++ x :: l.drop (i + 1) = l.take i ++ [x] ++ l.drop (i + [x].length) by simp, ← this]
  congr 1
  simp [cells]
theorem clear_in (l : List α) (i n : Nat) (z : List DV) (hz : z.length = e.sz) (h : i + n = l.length) : splice (cells e l) (i * e.sz) (mk z n) = cells e (l.take i) ++ mk z n := by
  unfold splice
  rw [cells_take, mk_length, hz, ← Nat.add_mul, h, List.drop_of_length_le (by rw [cells_len]; omega), List.append_nil]
theorem mk_nums (p : Nat → Bool) (z : List DV) (h : DV.nums.go p z = true) : ∀ n, DV.nums.go p (mk z n) = true
  | 0 => rfl
  | n + 1 => go_app h (mk_nums p z h n)
theorem del_up (l : List α) (i : Nat) (h : i < l.length) : splice (cells e l) (i * e.sz) (((cells e l).drop ((i + 1) * e.sz)).take ((l.length - (i + 1)) * e.sz)) = cells e (l.take i ++ l.drop (i + 1) ++ l.drop (l.length - 1)) := by
  have e3 := splice_cells e l (l.drop (i + 1)) i
  rw [List.length_drop, show i + (l.length - (i + 1)) = l.length - 1 by omega] at e3
  rw [ins_tail, e3]
theorem del_up2 (l : List α) (i : Nat) (h : i < l.length) : splice (cells e l) (i * e.sz) ((cells e l).drop ((i + 1) * e.sz)) = cells e (l.take i ++ l.drop (i + 1) ++ l.drop (l.length - 1)) := by
  have e1 := del_up e l i h
  have e2 : ((cells e l).drop ((i + 1) * e.sz)).take ((l.length - (i + 1)) * e.sz) = (cells e l).drop ((i + 1) * e.sz) := by rw [List.take_of_length_le]; rw [List.length_drop, cells_len, ← Nat.sub_mul]; exact Nat.le_refl _
  rwa [e2] at e1
theorem del_len (l : List α) (i : Nat) (h : i < l.length) : (l.take i ++ l.drop (i + 1)).length = l.length - 1 := by rw [List.length_append, List.length_take, List.length_drop]; omega
theorem del_clr (l : List α) (i : Nat) (h : i < l.length) (z : List DV) (hz : z.length = e.sz) : splice (cells e (l.take i ++ l.drop (i + 1) ++ l.drop (l.length - 1))) ((l.length - 1) * e.sz) z = cells e (l.take i ++ l.drop (i + 1)) ++ z := by
  have hl := del_len l i h
  have hc : (l.drop (l.length - 1)).length = 1 := by rw [List.length_drop]; omega
  generalize l.take i ++ l.drop (i + 1) = A at *
  generalize l.drop (l.length - 1) = C at *
  unfold splice
  have h1 : (cells e A).length = (l.length - 1) * e.sz := by rw [cells_len, hl]
  have h2 : (cells e C).length = e.sz := by rw [cells_len, hc, Nat.one_mul]
  rw [cells_app, ← h1, List.take_left' rfl, List.drop_length_add_append, hz, List.drop_of_length_le (by omega), List.append_nil]
theorem del_all (l : List α) (i : Nat) (h : i < l.length) : (cells e (l.take i ++ l.drop (i + 1) ++ l.drop (l.length - 1))).length = l.length * e.sz := by
  rw [cells_len]
  simp only [List.length_append, List.length_take, List.length_drop]
  rw [show min i l.length + (l.length - (i + 1)) + (l.length - (l.length - 1)) = l.length by omega]
end Go.V

/-
  V, part 46: what the caller holds, weakened at a call: nil slices in its blocks become slices without elements.
-/
namespace Go.V
open Go
theorem heap_wk {w : World} {β : Map} {hp : Heap} (hh : HeapRel w β hp) : HeapRel w β (hpwk hp) ∧ Evo w β hp w β (hpwk hp) := by
  have at_ : ∀ {i : Nat} {D : Blk}, (hpwk hp)[i]? = some D → ∃ D0, hp[i]? = some D0 ∧ D = D0.wk := by
    intro i D hi
    rw [hpwk, List.getElem?_map] at hi
    obtain ⟨x, h1, h2⟩ := map_eq hi
    exact ⟨x, h1, h2.symm⟩
  have lv : ∀ b, live β (hpwk hp) b → live β hp b := by
    rintro b ⟨i, D, g1, g2, g3⟩
    obtain ⟨D0, e1, rfl⟩ := at_ g1
    exact ⟨i, D0, e1, g2, g3⟩
  have e : Evo w β hp w β (hpwk hp) :=
    ⟨rfl, rfl, rfl, Nat.le_refl _, by simp [hpwk], fun _ _ => rfl, fun _ _ _ => rfl, fun _ C _ m h => ⟨C, m, h, rfl⟩, fun b _ hb => lv b hb, rfl⟩
  refine ⟨⟨fun i D b g1 g2 g3 => ?_, fun i D g1 g2 g3 => ?_, fun i i2 D D2 b g1 g2 g3 g4 g5 g6 => ?_, fun i D b g1 g2 g3 => ?_, hh.bound⟩, e⟩
  · obtain ⟨D0, e1, rfl⟩ := at_ g1
    obtain ⟨C, c1, c2, c3⟩ := hh.blk i D0 b e1 g2 g3
    refine ⟨C, c1, by show (DV.wk.go D0.cells).length ≤ _; rw [wk_go_map, List.length_map]; exact c2, fun n x hx => ?_⟩
    have hx2 : (DV.wk.go D0.cells)[n]? = some x := hx
    rw [wk_go_map, List.getElem?_map] at hx2
    obtain ⟨y, h1, h2⟩ := map_eq hx2
    subst h2
    exact ⟨DV.wk_one _ (c3 n y h1).1, ((c3 n y h1).2.mono e).wk⟩
  · obtain ⟨D0, e1, rfl⟩ := at_ g1
    have := hh.none i D0 e1 g2 g3
    show DV.wk.go D0.cells = []
    rw [this]; rfl
  · obtain ⟨D0, e1, rfl⟩ := at_ g1
    obtain ⟨D1, f1, rfl⟩ := at_ g2
    exact hh.inj i i2 D0 D1 b e1 f1 g3 g4 g5 g6
  · obtain ⟨D0, e1, rfl⟩ := at_ g1
    exact hh.avoid i D0 b e1 g2 g3
/-- At a call: nil slices in the caller's blocks and in what is handed over are weakened. -/
theorem VCalls.wkH {P : Program} {g : FuncId} {args : List DV} {hp : Heap} {R : DV → Heap → Prop} (c : VCalls P g (DV.wk.go args) (hpwk hp) R) : VCalls P g args hp R := by
  refine VCalls.wkA ⟨fun w β vs hh ha => ?_⟩
  obtain ⟨h1, e1⟩ := heap_wk hh
  refine (c.run w β vs h1 ⟨ha.1, fun i d hd => (ha.2 i d hd).mono e1⟩).mono ?_
  rintro _ w' ⟨v, r, h', β', a, b, c, d, k⟩
  exact ⟨v, r, h', β', a, e1.trans b, c, d, k⟩
theorem hpwk_nil : hpwk [] = [] := rfl
theorem hpwk_cons {B : Blk} {r : Heap} : hpwk (B :: r) = ⟨B.ty, B.live, DV.wk.go B.cells⟩ :: hpwk r := rfl
theorem wk_go_nil : DV.wk.go [] = [] := rfl
theorem wk_go_cons {d : DV} {r : List DV} : DV.wk.go (d :: r) = d.wk :: DV.wk.go r := rfl
end Go.V

/-
  V, part 47: a block of the caller's own that is only read from now on: its address becomes one of cells that nobody writes.
-/
namespace Go.V
open Go
def DV.ipK (k : Nat) (c : List PV) : DV → DV
  | .ptr j off => if j = k ∧ off = 0 then .ip c else .ptr j off
  | .fn f a b => .fn f (go k c a) (go k c b)
  | .agg cs => .agg (go k c cs)
  | d => d
where
  go (k : Nat) (c : List PV) : List DV → List DV
    | [] => []
    | d :: r => d.ipK k c :: go k c r
theorem ipK_go_map (k : Nat) (c : List PV) : ∀ ds : List DV, DV.ipK.go k c ds = ds.map (DV.ipK k c)
  | [] => rfl
  | d :: r => by rw [DV.ipK.go, ipK_go_map k c r]; rfl
theorem dead_at {hp : Heap} {k : Nat} {T : TypeId} {i : Nat} {D : Blk} (h : (hp.set k ⟨T, false, []⟩)[i]? = some D) (hl : D.live = true) : i ≠ k ∧ hp[i]? = some D := by
  rw [List.getElem?_set] at h
  split at h
  · split at h
    · simp at h; subst h; simp at hl
    · simp at h
  · exact ⟨fun e => by rename_i hne; exact hne e.symm, h⟩
theorem dead_heap {w : World} {β : Map} {hp : Heap} {k : Nat} {T : TypeId} (hh : HeapRel w β hp) : HeapRel w β (hp.set k ⟨T, false, []⟩) ∧ Evo w β hp w β (hp.set k ⟨T, false, []⟩) := by
  have lv : ∀ b, live β (hp.set k ⟨T, false, []⟩) b → live β hp b := by
    rintro b ⟨i, D, g1, g2, g3⟩
    exact ⟨i, D, (dead_at g1 g2).2, g2, g3⟩
  have e : Evo w β hp w β (hp.set k ⟨T, false, []⟩) :=
    ⟨rfl, rfl, rfl, Nat.le_refl _, by simp, fun _ _ => rfl, fun _ _ _ => rfl, fun _ C _ m h => ⟨C, m, h, rfl⟩, fun b _ hb => lv b hb, rfl⟩
  refine ⟨⟨fun i D b g1 g2 g3 => ?_, fun i D g1 g2 g3 => hh.none i D (dead_at g1 g2).2 g2 g3, fun i i2 D D2 b g1 g2 g3 g4 g5 g6 => hh.inj i i2 D D2 b (dead_at g1 g3).2 (dead_at g2 g4).2 g3 g4 g5 g6, fun i D b g1 g2 g3 => hh.avoid i D b (dead_at g1 g2).2 g2 g3, hh.bound⟩, e⟩
  obtain ⟨C, c1, c2, c3⟩ := hh.blk i D b (dead_at g1 g2).2 g2 g3
  exact ⟨C, c1, c2, fun n x hx => ⟨(c3 n x hx).1, (c3 n x hx).2.mono e⟩⟩
theorem relD_ipK {w : World} {β : Map} {hp : Heap} {k : Nat} {T : TypeId} {c : List PV} (hh : HeapRel w β hp) (hk : hp[k]? = some ⟨T, true, c.map .pv⟩) {d : DV} {v : Value} (h : RelD w β hp d v) : RelD w β (hp.set k ⟨T, false, []⟩) (d.ipK k c) v := by
  have e := (dead_heap (k := k) (T := T) hh).2
  induction h with
  | ptr j off b hlt hm =>
    simp only [DV.ipK]
    split
    · rename_i hc
      obtain ⟨rfl, rfl⟩ := hc
      obtain ⟨C, c1, c2, c3⟩ := hh.blk j _ b hk rfl hm
      have each : ∀ (n : Nat) (d : PV), c[n]? = some d → n < C.v.size ∧ RelP w (img β hp) d (C.v.getD n undef) := fun n d hn => by
        have h1 := c3 n (.pv d) (by rw [List.getElem?_map, hn]; rfl)
        refine ⟨by have := (List.getElem?_eq_some_iff.1 hn).1; simp at c2; omega, ?_⟩
        cases h1.2 with | pv _ _ hp => exact hp
      have nolive : ¬ img β (hp.set j ⟨T, false, []⟩) b := by
        rintro (hx | ⟨i, D, g1, g2, g3⟩)
        · exact hh.avoid j _ b hk rfl hm hx
        · obtain ⟨q1, q2⟩ := dead_at g1 g2
          exact q1 (hh.inj i j D _ b q2 hk g2 rfl g3 hm)
      refine .ip c ⟨b, 0, none⟩ (fun n => C.v.getD n undef) rfl (fun n d hn => ⟨(Array.getElem?_eq_some_iff.1 c1).1, nolive, ?_⟩) (fun n d hn => (each n d hn).2.mono e.size e.same' e.im')
      have := cell_of_blk (o := n) c1 (each n d hn).1
      simpa [at_] using this
    · exact .ptr j off b (by simpa using hlt) hm
  | agg ds vs h _ ih =>
    simp only [DV.ipK, ipK_go_map]
    refine .agg _ vs (by rw [List.length_map]; exact h) (fun i d hd => ?_)
    rw [List.getElem?_map] at hd
    obtain ⟨x, h1, h2⟩ := map_eq hd
    subst h2; exact ih i x h1
  | fn f ds es vs us h h' _ _ ih ih' =>
    simp only [DV.ipK, ipK_go_map]
    refine .fn f _ _ vs us (by rw [List.length_map]; exact h) (by rw [List.length_map]; exact h') (fun i d hd => ?_) (fun i d hd => ?_)
    · rw [List.getElem?_map] at hd
      obtain ⟨x, h1, h2⟩ := map_eq hd
      subst h2; exact ih i x h1
    · rw [List.getElem?_map] at hd
      obtain ⟨x, h1, h2⟩ := map_eq hd
      subst h2; exact ih' i x h1
  | pv p v h => exact (RelD.pv p v h).mono e
  | own k sz off len cap b C T m h hb h1 h2 h3 h4 => exact (RelD.own k sz off len cap b C T m h hb h1 h2 h3 h4).mono e
  | ownc k sz off len cap b o C T m h hb h1 h2 h3 h4 h5 => exact (RelD.ownc k sz off len cap b o C T m h hb h1 h2 h3 h4 h5).mono e
  | own0 k sz a h hb ha => exact (RelD.own0 k sz a h hb ha).mono e
  | ip cs ad val h1 h2 h3 => exact (RelD.ip cs ad val h1 h2 h3).mono e
  | tup ds vs h h2 _ => exact (RelD.tup ds vs h h2).mono e
  | opt c d v h hf _ => exact (RelD.opt c d v h hf).mono e
  | any v => exact .any v
/-- At a call: the block k is only read from now on. -/
theorem VCalls.ipK {P : Program} {g : FuncId} {args : List DV} {hp : Heap} {R : DV → Heap → Prop} (k : Nat) (c : List PV) {T : TypeId} (hk : hp[k]? = some ⟨T, true, c.map .pv⟩) (cc : VCalls P g (DV.ipK.go k c args) (hp.set k ⟨T, false, []⟩) R) : VCalls P g args hp R := by
  refine ⟨fun w β vs hh ha => ?_⟩
  obtain ⟨h1, e1⟩ := dead_heap (k := k) (T := T) hh
  rw [ipK_go_map] at cc
  refine (cc.run w β vs h1 ⟨by rw [List.length_map]; exact ha.1, fun i d hd => ?_⟩).mono ?_
  · rw [List.getElem?_map] at hd
    obtain ⟨x, q1, q2⟩ := map_eq hd
    subst q2
    exact relD_ipK hh hk (ha.2 i x q1)
  · rintro _ w' ⟨v, r, h', β', a, b, c, d, k⟩
    exact ⟨v, r, h', β', a, e1.trans b, c, d, k⟩
end Go.V

/-
  V, part 48: one state says no less than another; loops and parts with that.
-/
namespace Go.V
open Go
def SimLe (S S' : St) : Prop := ∀ (O : Org) (β : Map) (a : Act) (w : World), Sim O β S a w → ∃ β', Sim O β' S' a w
theorem SimLe.refl (S : St) : SimLe S S := fun _ β _ _ h => ⟨β, h⟩
theorem SimLe.trans {S S1 S2 : St} (h : SimLe S S1) (g : SimLe S1 S2) : SimLe S S2 := fun O β a w hs =>
  let ⟨β1, h1⟩ := h O β a w hs
  g O β1 a w h1
theorem SimLe.weak {S S' : St} (h : Weak S S') : SimLe S S' := fun _ _ _ _ hs => hs.weak h
theorem SimLe.wk {S S' : St} (h : SimLe ⟨S.nt, S.base, tmwk S.tm, hpwk S.hp⟩ S') : SimLe S S' := fun O β a w hs => h O β a w (sim_wk hs)
theorem VWp.simLe {P : Program} {c : Code} {Q : Exit → St → Prop} {S : St} (S' : St) (g : SimLe S S') (h : VWp P c Q S') : VWp P c Q S := fun O β a w hs =>
  let ⟨β', hs'⟩ := g O β a w hs
  h O β' a w hs'
theorem VLoop.simLe {P : Program} {c : Code} {Q : Exit → St → Prop} {S : St} (S' : St) (g : SimLe S S') (h : VLoop P c Q S') : VLoop P c Q S := VWp.simLe S' g h
theorem VDraw.simLe {P : Program} {id : Nat} {ops : Array Oper} {Q : Exit → St → Prop} {S : St} (S' : St) (g : SimLe S S') (h : VDraw P id ops Q S') : VDraw P id ops Q S := VWp.simLe S' g h
/-- The first n parts of a code, and the rest. -/
def headc : Nat → Code → Code
  | n + 1, .seq a b => .seq a (headc n b)
  | _, _ => .skip
def restc : Nat → Code → Code
  | n + 1, .seq _ b => restc n b
  | _, c => c
theorem vcut {P : Program} : ∀ (n : Nat) {c : Code} {Q : Exit → St → Prop} {S : St}, vcode P (headc n c) (onNormal Q fun S' => ∃ S'', SimLe S' S'' ∧ VWp P (restc n c) Q S'') S → VWp P c Q S
  | 0, c, Q, S, h => by
    have h : ∃ S'', SimLe S S'' ∧ VWp P (restc 0 c) Q S'' := by cases c <;> exact h
    obtain ⟨S'', h1, h2⟩ := h
    cases c <;> exact VWp.simLe S'' h1 h2
  | n + 1, c, Q, S, h => by
    cases c with
    | seq a b =>
      intro O β ac w hs
      simp only [headc, vcode] at h
      refine wp_seq (wp_mono (vcode_sound a _ S h O β ac w hs) fun e a' w' hq => ?_)
      obtain ⟨β', S', hs', hq⟩ := hq
      cases e with
      | normal => exact vcut n (c := b) hq O β' a' w' hs'
      | _ => exact ⟨β', S', hs', hq⟩
    | _ =>
      obtain ⟨S'', h1, h2⟩ := (h : ∃ S'', SimLe S S'' ∧ _)
      exact VWp.simLe S'' h1 h2
theorem tmwk_nil : tmwk [] = [] := rfl
theorem tmwk_cons {t : Nat} {d : DV} {r : List (Nat × DV)} : tmwk ((t, d) :: r) = (t, d.wk) :: tmwk r := rfl
theorem wk_goA (a b : List DV) : DV.wk.go (a ++ b) = DV.wk.go a ++ DV.wk.go b := by rw [wk_go_map, wk_go_map, wk_go_map, List.map_append]
theorem headc_seq {n : Nat} {a b : Code} : headc (n + 1) (.seq a b) = .seq a (headc n b) := rfl
theorem headc_zero {c : Code} : headc 0 c = .skip := by cases c <;> rfl
theorem restc_seq {n : Nat} {a b : Code} : restc (n + 1) (.seq a b) = restc n b := rfl
theorem restc_zero {c : Code} : restc 0 c = c := by cases c <;> rfl
theorem vcut_wk {P : Program} {c : Code} {Q : Exit → St → Prop} {S : St} (h : vcode P c Q ⟨S.nt, S.base, tmwk S.tm, hpwk S.hp⟩) : ∃ S'', SimLe S S'' ∧ VWp P c Q S'' :=
  ⟨_, .wk (.refl _), vcode_sound _ _ _ h⟩
/-- The end of a call, of which nil slices are weakened first. -/
def vpostK (P : Program) (rs : List ResultVar) (n : Nat) (R : DV → Heap → Prop) (e : Exit) (S : St) : Prop := vpost P rs n R e ⟨S.nt, S.base, tmwk S.tm, hpwk S.hp⟩
theorem vpostK_ret {P : Program} {rs : List ResultVar} {n : Nat} {R : DV → Heap → Prop} {S : St} : vpostK P rs n R .ret S = vpost P rs n R .ret ⟨S.nt, S.base, tmwk S.tm, hpwk S.hp⟩ := (rfl)
theorem VWp.postK {P : Program} {c : Code} {rs : List ResultVar} {n : Nat} {R : DV → Heap → Prop} {S : St} (h : VWp P c (vpostK P rs n R) S) : VWp P c (vpost P rs n R) S := fun O β a w hs =>
  wp_mono (h O β a w hs) fun _ _ _ ⟨β', _, hs', hq⟩ => ⟨β', _, sim_wk hs', hq⟩
theorem vcalls_dropk {P : Program} {g : FuncId} {args : List DV} {h : Heap} {R : DV → Heap → Prop} {fn : Func} {c : Code} (hf : P.funcs[g]? = some fn) (hb : fn.body = some c) (hname : (fn.name == "runtime.NumGoroutine") = false) (hn : args.length ≤ fn.ntmps)
    (hc : vcode P c (vpostK P fn.results.toList h.length R) ⟨fn.ntmps, h.length, enum 0 args, h⟩) : VCalls P g args h R :=
  vcalls_dropW hf hb hname hn (vcode_sound c _ _ hc).postK
attribute [go_sem ↓] vpostK_ret
attribute [go_sem] tmwk_nil tmwk_cons hpwk_nil hpwk_cons wk_go_nil wk_go_cons wk_goA
end Go.V

/-
  V, part 49: a field of an element set in place; a list of whose cells some are slices of the call's own, read out.
-/
namespace Go.V
open Go
theorem rows_map (g : DV → Option PV) (sz : Nat) : ∀ (n : Nat) (l : List DV), (rows sz n l).map (fun r => r.map g) = (List.range n).map fun i => ((l.map g).drop (i * sz)).take sz
  | 0, _ => rfl
  | n + 1, l => by
    rw [rows, List.map_cons, rows_map g sz n (l.drop sz), List.range_succ_eq_map, List.map_cons, List.map_map]
    congr 1
    · simp [List.map_take]
    · refine List.map_congr_left fun i _ => ?_
      simp only [Function.comp, Nat.succ_eq_add_one, Nat.add_mul, Nat.one_mul, List.map_drop, List.drop_drop]
      rw [Nat.add_comm]
variable {α : Type} (e : Enc α)
theorem frzC_same {n : Nat} {hp : Heap} {l : List α} {len : Nat} {X : List DV} (hl : l.length = len) (h : X.map (frzP n hp 3) = (cells e l).map (frzP n hp 3)) : frzC n hp 0 e.sz len (some X) = some (.sl (fz e l)) := by
  have h1 := frzC_cells e (n := n) (hp := hp) hl
  have hlen : X.length = (cells e l).length := by have := congrArg List.length h; simpa using this
  unfold frzC at h1 ⊢
  simp only [List.drop_zero] at h1 ⊢
  rw [hlen]
  split at h1
  · rename_i hc
    rw [if_pos hc, ← h1]
    congr 2
    have e1 := rows_map (frzP n hp 3) e.sz len X
    have e2 := rows_map (frzP n hp 3) e.sz len (cells e l)
    rw [h, ← e2] at e1
    have := congrArg (List.map allSome) e1
    rw [List.map_map, List.map_map] at this
    exact this
  · cases h1
theorem setF (l : List α) (i j : Nat) (t : α) (p : PV) (hi : i < l.length) (hj : j < e.sz) (h : e.enc t = (e.enc l[i]).set j p) : (cells e l).set (i * e.sz + j) (.pv p) = cells e (l.set i t) := by
  have h1 : cells e l = cells e (l.take i) ++ ((e.enc l[i]).map DV.pv ++ cells e (l.drop (i + 1))) := by
    conv => lhs; rw [← List.take_append_drop i l, List.drop_eq_getElem_cons hi, cells_app, cells_cons]
  have h2 : cells e (l.set i t) = cells e (l.take i) ++ ((e.enc t).map DV.pv ++ cells e (l.drop (i + 1))) := by
    rw [List.set_eq_take_append_cons_drop, if_pos hi, cells_app, cells_cons]
  have hl : (cells e (l.take i)).length = i * e.sz := by rw [cells_len, List.length_take, Nat.min_eq_left (by omega)]
  rw [h1, h2, List.set_append_right (i * e.sz + j) (DV.pv p) (by omega), hl, Nat.add_sub_cancel_left, List.set_append_left j (DV.pv p) (by rw [List.length_map, e.hlen]; exact hj), h, List.map_set]
theorem frzF_own {n : Nat} {hp : Heap} {l : List α} {i j : Nat} {t : α} {p : PV} {d : DV} {len : Nat} (hl : l.length = len) (hi : i < l.length) (hj : j < e.sz) (h : e.enc t = (e.enc l[i]).set j p) (hd : frzP n hp 3 d = some p) : frzC n hp 0 e.sz len (some ((cells e l).set (i * e.sz + j) d)) = some (.sl (fz e (l.set i t))) := by
  refine frzC_same e (by rw [List.length_set]; exact hl) ?_
  rw [← setF e l i j t p hi hj h, List.map_set, List.map_set, hd]
  rfl
end Go.V
