/-
  Contracts of functions of the program and of the statements, and plain laws. No condition.
-/
import Derived.Test.YtkbahhackcnnbaaV2
namespace Go.V
open Go
/-- Slices whose capacity is known may be handed where it is not asked for. -/
theorem VCalls.wkA {P : Program} {g : FuncId} {args : List DV} {hp : Heap} {R : DV → Heap → Prop} (c : VCalls P g (DV.wk.go args) hp R) : VCalls P g args hp R :=
  ⟨fun w β vs hh ha => c.run w β vs hh ⟨by rw [wk_go_map, List.length_map]; exact ha.1, fun i d hd => by
    rw [wk_go_map, List.getElem?_map] at hd
    obtain ⟨x, h1, h2⟩ := map_eq hd
    subst h2
    exact (ha.2 i x h1).wk⟩⟩
end Go.V

/-
  V, part 38: what lies at the end of a block may be forgotten.
-/
namespace Go.V
open Go

/-- The same blocks, of which some are known less far. -/
structure Cut (h h' : Heap) : Prop where
  len : h'.length = h.length
  at_ : ∀ (k : Nat) (B : Blk), h[k]? = some B → ∃ B', h'[k]? = some B' ∧ B'.ty = B.ty ∧ B'.live = B.live ∧ ∃ t, B.cells = B'.cells ++ t
theorem Cut.back {h h' : Heap} (c : Cut h h') {k : Nat} {B' : Blk} (hk : h'[k]? = some B') : ∃ B, h[k]? = some B ∧ B'.ty = B.ty ∧ B'.live = B.live ∧ ∃ t, B.cells = B'.cells ++ t := by
  have hlt : k < h.length := by rw [← c.len]; exact (List.getElem?_eq_some_iff.1 hk).1
  obtain ⟨B2, g1, g2⟩ := c.at_ k h[k] (List.getElem?_eq_getElem hlt)
  rw [hk] at g1
  cases g1
  exact ⟨h[k], List.getElem?_eq_getElem hlt, g2⟩
theorem Cut.live {h h' : Heap} (c : Cut h h') {β : Map} {b : Nat} : live β h' b ↔ live β h b := by
  constructor
  · rintro ⟨k, B, h1, h2, h3⟩
    obtain ⟨B2, g1, _, g3, _⟩ := c.back h1
    exact ⟨k, B2, g1, g3 ▸ h2, h3⟩
  · rintro ⟨k, B, h1, h2, h3⟩
    obtain ⟨B2, g1, _, g3, _⟩ := c.at_ k B h1
    exact ⟨k, B2, g1, g3.trans h2, h3⟩
theorem Cut.evo {h h' : Heap} (c : Cut h h') (w : World) (β : Map) : Evo w β h w β h' :=
  ⟨rfl, rfl, rfl, Nat.le_refl _, by rw [c.len]; exact Nat.le_refl _, fun _ _ => rfl, fun _ _ _ => rfl, fun _ C _ m e => ⟨C, m, e, rfl⟩, fun _ _ l => c.live.1 l, rfl⟩
theorem Cut.heap {h h' : Heap} (c : Cut h h') {w : World} {β : Map} (hh : HeapRel w β h) : HeapRel w β h' := by
  refine ⟨fun k B b h1 h2 h3 => ?_, fun k B h1 h2 h3 => ?_, fun j k B B' b h1 h2 h3 h4 h5 h6 => ?_, fun k B b h1 h2 h3 => ?_, hh.bound⟩
  · obtain ⟨B2, g1, g2, g3, t, g4⟩ := c.back h1
    obtain ⟨C, e1, e2, e3⟩ := hh.blk k B2 b g1 (g3 ▸ h2) h3
    refine ⟨C, g2 ▸ e1, by rw [g4, List.length_append] at e2; omega, fun i d hd => ?_⟩
    have : B2.cells[i]? = some d := by rw [g4, List.getElem?_append_left (List.getElem?_eq_some_iff.1 hd).1]; exact hd
    exact ⟨(e3 i d this).1, (e3 i d this).2.mono (c.evo w β)⟩
  · obtain ⟨B2, g1, g2, g3, t, g4⟩ := c.back h1
    have := hh.none k B2 g1 (g3 ▸ h2) h3
    rw [g4] at this
    exact (List.append_eq_nil_iff.1 this).1
  · obtain ⟨B2, g1, _, g3, _⟩ := c.back h1
    obtain ⟨B3, i1, _, i3, _⟩ := c.back h2
    exact hh.inj j k B2 B3 b g1 i1 (g3 ▸ h3) (i3 ▸ h4) h5 h6
  · obtain ⟨B2, g1, _, g3, _⟩ := c.back h1
    exact hh.avoid k B2 b g1 (g3 ▸ h2) h3
theorem VCalls.cut {P : Program} {g : FuncId} {args : List DV} {h : Heap} {R R' : DV → Heap → Prop} (c : VCalls P g args h R) (hr : ∀ r h', R r h' → ∃ h'', Cut h' h'' ∧ R' r h'') : VCalls P g args h R' :=
  ⟨fun w β vs hh ha => (c.run w β vs hh ha).mono fun _ w' ⟨v, r, h', β', e1, ev, hh', hd, hR⟩ => by
    obtain ⟨h'', hc, hR'⟩ := hr r h' hR
    exact ⟨v, r, h'', β', e1, ev.trans (hc.evo w' β'), hc.heap hh', hd.mono (hc.evo w' β'), hR'⟩⟩
theorem Cut.refl (h : Heap) : Cut h h := ⟨rfl, fun k B hk => ⟨B, hk, rfl, rfl, [], by simp⟩⟩
theorem Cut.last (h : Heap) (T : TypeId) (b : Bool) (cs t : List DV) : Cut (h ++ [⟨T, b, cs ++ t⟩]) (h ++ [⟨T, b, cs⟩]) := by
  refine ⟨by simp, fun k B hk => ?_⟩
  rcases Nat.lt_trichotomy k h.length with hlt | heq | hgt
  · rw [List.getElem?_append_left hlt] at hk ⊢
    exact ⟨B, hk, rfl, rfl, [], by simp⟩
  · subst heq
    simp only [List.getElem?_concat_length, Option.some.injEq] at hk ⊢
    subst hk
    exact ⟨_, rfl, rfl, rfl, t, rfl⟩
  · rw [List.getElem?_eq_none (by simp; omega)] at hk; cases hk
/-- A new slice whose block goes on behind it. -/
theorem VCalls.newSl_cut {P : Program} {g : FuncId} {args : List DV} {h : Heap} {kp : Nat → Bool} {sz n : Nat} {T : TypeId} {cs t : List DV} (c : VCalls P g args h (NewSl kp h sz n T (cs ++ t))) : VCalls P g args h (NewSl kp h sz n T cs) :=
  c.cut fun r h' e => by
    obtain ⟨rfl, rfl⟩ := e
    exact ⟨_, Cut.last _ T true cs t, rfl, rfl⟩
end Go.V

/-
  V, part 39: blocks that a call was given are its own: they get numbers behind those of the caller, where theirs die.
-/
namespace Go.V
open Go

/-- Dead blocks in place of the caller's, then the blocks 'keep' alone, in that order. -/
structure Gm (keep : List Nat) (S S' : St) : Prop where
  nt : S'.nt = S.nt
  base : S'.base = S.base
  low : ∀ k, k < S.base → ∃ B, S'.hp[k]? = some B ∧ B.live = false
  nodup : keep.Nodup
  len : S'.hp.length = S.base + keep.length
  hp : ∀ (i k : Nat), keep[i]? = some k → ∃ B B', S.hp[k]? = some B ∧ S'.hp[S.base + i]? = some B' ∧ B'.ty = B.ty ∧ B'.live = B.live ∧ B'.cells = B.cells.map (DV.ren fun k => S.base + keep.idxOf k) ∧ (B.live = true → DV.nums.go keep.contains B.cells = true)
  tm : ∀ t, V.look S'.tm t = .any ∨ (V.look S'.tm t = (V.look S.tm t).ren (fun k => S.base + keep.idxOf k) ∧ (V.look S.tm t).nums keep.contains = true)

theorem Sim.gm {O : Org} {β : Map} {S S' : St} {a : Act} {w : World} {keep : List Nat} (h : Sim O β S a w) (g : Gm keep S S') : ∃ β', Sim O β' S' a w := by
  let β' : Map := ⟨fun i => if i < S.base then β.f i else (keep[i - S.base]?).bind β.f, β.X⟩
  have hO : O.hp.length = S.base := h.base
  have back : ∀ {i : Nat} {B' : Blk}, S'.hp[i]? = some B' → B'.live = true → ∃ k B, S.base ≤ i ∧ keep[i - S.base]? = some k ∧ S.hp[k]? = some B ∧ B'.ty = B.ty ∧ B'.live = B.live ∧ B'.cells = B.cells.map (DV.ren fun k => S.base + keep.idxOf k) ∧ (B.live = true → DV.nums.go keep.contains B.cells = true) ∧ β'.f i = β.f k := by
    intro i B' hi hl
    have hge : S.base ≤ i := by
      rcases Nat.lt_or_ge i S.base with hlt | hge
      · obtain ⟨B, h1, h2⟩ := g.low i hlt
        rw [hi] at h1; cases h1; rw [hl] at h2; cases h2
      · exact hge
    have hlt : i - S.base < keep.length := by have := (List.getElem?_eq_some_iff.1 hi).1; rw [g.len] at this; omega
    have hk : keep[i - S.base]? = some keep[i - S.base] := List.getElem?_eq_getElem hlt
    obtain ⟨B, B'', h1, h2, h3, h4, h5, h6⟩ := g.hp _ _ hk
    rw [show S.base + (i - S.base) = i by omega, hi] at h2
    cases h2
    exact ⟨_, B, hge, hk, h1, h3, h4, h5, h6, by simp [β', hk]; omega⟩
  have hsub : ∀ b, live β' S'.hp b → live β S.hp b := by
    rintro b ⟨i, B', h1, h2, h3⟩
    obtain ⟨k, B, _, _, k2, _, k4, _, _, k7⟩ := back h1 h2
    exact ⟨k, B, k2, by rw [← k4]; exact h2, by rw [← k7]; exact h3⟩
  have him : ∀ b, img β' S'.hp b → img β S.hp b := fun b hb => hb.imp id (hsub b)
  have hσ : ∀ k, keep.contains k = true → k < S.hp.length → S.base + keep.idxOf k < S'.hp.length ∧ β'.f (S.base + keep.idxOf k) = β.f k := by
    intro k hk _
    have hm : k ∈ keep := by simpa using hk
    have hlt := List.idxOf_lt_length_of_mem hm
    refine ⟨by rw [g.len]; omega, ?_⟩
    have hnl : ¬ S.base + List.idxOf k keep < S.base := by omega
    simp [β', List.getElem?_eq_getElem hlt, hnl]
  refine ⟨β', h.defers, by rw [g.nt]; exact h.size, fun t => ?_, ?_, ?_, h.base.trans g.base.symm⟩
  · rcases g.tm t with e | ⟨e, hn⟩
    · rw [e]; exact .any _
    · rw [e]; exact RelD.ren hσ him (h.tm t) hn
  · have hh := h.heap
    refine ⟨fun i B' b h1 h2 h3 => ?_, fun i B' h1 h2 h3 => ?_, fun i j B B' b h1 h2 h3 h4 h5 h6 => ?_, fun i B' b h1 h2 h3 => ?_, hh.bound⟩
    · obtain ⟨k, B, _, k1, k2, k3, k4, k5, k6, k7⟩ := back h1 h2
      rw [k7] at h3
      have hl : B.live = true := by rw [← k4]; exact h2
      obtain ⟨C, c1, c2, c3⟩ := hh.blk k B b k2 hl h3
      refine ⟨C, by rw [k3]; exact c1, by rw [k5, List.length_map]; exact c2, fun j d hd => ?_⟩
      rw [k5, List.getElem?_map] at hd
      cases hx : B.cells[j]? with
      | none => simp [hx] at hd
      | some x =>
        simp [hx] at hd
        subst hd
        obtain ⟨o1, o2⟩ := c3 j x hx
        refine ⟨?_, RelD.ren hσ him o2 (DV.nums_go (k6 hl) j x hx)⟩
        cases x <;> first | rfl | exact o1
    · obtain ⟨k, B, _, k1, k2, k3, k4, k5, k6, k7⟩ := back h1 h2
      rw [k7] at h3
      rw [k5, hh.none k B k2 (by rw [← k4]; exact h2) h3]; rfl
    · obtain ⟨k, D, g1, k1, k2, k3, k4, k5, k6, k7⟩ := back h1 h3
      obtain ⟨k', D', g2, l1, l2, l3, l4, l5, l6, l7⟩ := back h2 h4
      rw [k7] at h5
      rw [l7] at h6
      have := hh.inj k k' D D' b k2 l2 (by rw [← k4]; exact h3) (by rw [← l4]; exact h4) h5 h6
      subst this
      obtain ⟨hi, e1⟩ := List.getElem?_eq_some_iff.1 k1
      obtain ⟨hj, e2⟩ := List.getElem?_eq_some_iff.1 l1
      have := (List.getElem_inj g.nodup).1 (e1.trans e2.symm)
      omega
    · obtain ⟨k, B, _, k1, k2, k3, k4, k5, k6, k7⟩ := back h1 h2
      rw [k7] at h3
      exact hh.avoid k B b k2 (by rw [← k4]; exact h2) h3
  · have ev := h.evo
    have hlow : ∀ k, k < O.hp.length → β'.f k = β.f k := fun k hk => by simp [β', show k < S.base by omega]
    exact ⟨ev.os, ev.tape, ev.output, ev.size, by rw [g.len]; omega, fun k hk => (hlow k hk).trans (ev.beta k hk), ev.same, ev.shape, fun b hb hl => ev.im b hb (hsub b hl), ev.X⟩

def tmGm (n : Nat) (keep : List Nat) (tm : List (Nat × DV)) : List (Nat × DV) → Prop
  | [] => True
  | (t, d) :: r => (d = (V.look tm t).ren (fun k => n + keep.idxOf k) ∧ (V.look tm t).nums keep.contains = true) ∧ tmGm n keep tm r
theorem tmGm_look {n : Nat} {keep : List Nat} {tm : List (Nat × DV)} : ∀ {tm' : List (Nat × DV)}, tmGm n keep tm tm' → ∀ t, V.look tm' t = .any ∨ (V.look tm' t = (V.look tm t).ren (fun k => n + keep.idxOf k) ∧ (V.look tm t).nums keep.contains = true)
  | [], _, t => .inl rfl
  | (a, d) :: r, h, t => by
    simp only [V.look]
    split
    · rename_i e; subst e; exact .inr h.1
    · exact tmGm_look h.2 t
def cellsGm (n : Nat) (keep : List Nat) (cs cs' : List DV) : Prop := (DV.nums.go (fun _ => false) cs = true ∧ cs' = cs) ∨ (cs' = cs.map (DV.ren fun k => n + keep.idxOf k) ∧ DV.nums.go keep.contains cs = true)
def hpGm (n : Nat) (keep : List Nat) (hp : Heap) : List Nat → Heap → Prop
  | [], [] => True
  | k :: r, B' :: r' => (∃ B, hp[k]? = some B ∧ B'.ty = B.ty ∧ B'.live = B.live ∧ cellsGm n keep B.cells B'.cells) ∧ hpGm n keep hp r r'
  | _, _ => False
theorem hpGm_get {n : Nat} {keep : List Nat} {hp : Heap} : ∀ {l : List Nat} {hp' : Heap}, hpGm n keep hp l hp' → hp'.length = l.length ∧ ∀ (i k : Nat), l[i]? = some k → ∃ B B', hp[k]? = some B ∧ hp'[i]? = some B' ∧ B'.ty = B.ty ∧ B'.live = B.live ∧ B'.cells = B.cells.map (DV.ren fun k => n + keep.idxOf k) ∧ (B.live = true → DV.nums.go keep.contains B.cells = true)
  | [], [], _ => ⟨rfl, fun i k h => by simp at h⟩
  | [], _ :: _, h => h.elim
  | _ :: _, [], h => h.elim
  | k0 :: r, B' :: r', h => by
    obtain ⟨⟨B, h1, h2, h3, h4⟩, h5⟩ := h
    obtain ⟨g1, g2⟩ := hpGm_get h5
    refine ⟨by simp [g1], fun i k hk => ?_⟩
    cases i with
    | zero =>
      simp at hk
      subst hk
      refine ⟨B, B', h1, rfl, h2, h3, ?_⟩
      rcases h4 with ⟨n, e⟩ | ⟨e, n⟩
      · exact ⟨by rw [e, ← DV.ren_go, ren_id_go _ _ n], fun _ => nums_mono_go _ _ n⟩
      · exact ⟨e, fun _ => n⟩
    | succ i => exact g2 i k (by simpa using hk)

/-- Dead blocks. -/
def deadL : List TypeId → Heap := List.map fun T => ⟨T, false, []⟩
/-- A loop before which what the call was given becomes its own. -/
theorem VWp.move {P : Program} {c : Code} {Q : Exit → St → Prop} {S : St} (keep : List Nat) (Ts : List TypeId) (tm' : List (Nat × DV)) (hp' : Heap) (hb : Ts.length = S.base) (hn : keep.Nodup) (hh : hpGm S.base keep S.hp keep hp') (ht : tmGm S.base keep S.tm tm') (h : VWp P c Q ⟨S.nt, S.base, tm', deadL Ts ++ hp'⟩) : VWp P c Q S := fun O β a w hs => by
  obtain ⟨g1, g2⟩ := hpGm_get hh
  have hl : (deadL Ts).length = S.base := by simp [deadL, hb]
  obtain ⟨β', h'⟩ := hs.gm (keep := keep) (S' := ⟨S.nt, S.base, tm', deadL Ts ++ hp'⟩) ⟨rfl, rfl, fun k hk => by
    have hlt : k < (deadL Ts).length := by omega
    refine ⟨(deadL Ts)[k], by show (deadL Ts ++ hp')[k]? = _; rw [List.getElem?_append_left hlt, List.getElem?_eq_getElem hlt], by simp [deadL]⟩, hn, by show (deadL Ts ++ hp').length = _; rw [List.length_append, hl, g1], fun i k hk => by
    obtain ⟨B, B', e1, e2, e3⟩ := g2 i k hk
    exact ⟨B, B', e1, by show (deadL Ts ++ hp')[S.base + i]? = _; rw [List.getElem?_append_right (by omega), hl, show S.base + i - S.base = i by omega]; exact e2, e3⟩, tmGm_look ht⟩
  exact h O β' a w h'
theorem VLoop.move {P : Program} {c : Code} {Q : Exit → St → Prop} {S : St} (keep : List Nat) (Ts : List TypeId) (tm' : List (Nat × DV)) (hp' : Heap) (hb : Ts.length = S.base) (hn : keep.Nodup) (hh : hpGm S.base keep S.hp keep hp') (ht : tmGm S.base keep S.tm tm') (h : VLoop P c Q ⟨S.nt, S.base, tm', deadL Ts ++ hp'⟩) : VLoop P c Q S := VWp.move keep Ts tm' hp' hb hn hh ht h
end Go.V

/-
  V, part 40: between two rounds of a loop the own slices of a call may be read out, and their blocks left behind.
-/
namespace Go.V
open Go

/-- The slots that are still looked at, read out. -/
def tmFz (n : Nat) (hp : Heap) (tm : List (Nat × DV)) : List (Nat × DV) → Prop
  | [] => True
  | (t, d) :: r => frz n hp (V.look tm t) = some d ∧ tmFz n hp tm r
theorem tmFz_look {n : Nat} {hp : Heap} {tm : List (Nat × DV)} : ∀ {tm' : List (Nat × DV)}, tmFz n hp tm tm' → ∀ t, V.look tm' t = .any ∨ frz n hp (V.look tm t) = some (V.look tm' t)
  | [], _, t => .inl rfl
  | (a, d) :: r, h, t => by
    simp only [V.look]
    split
    · rename_i e; subst e; exact .inr h.1
    · exact tmFz_look h.2 t
structure Fz (S S' : St) : Prop where
  nt : S'.nt = S.nt
  base : S'.base = S.base
  hp : frzHeap S.base S.hp = some S'.hp
  tm : tmFz S.base S.hp S.tm S'.tm
theorem Sim.fz {O : Org} {β : Map} {S S' : St} {a : Act} {w : World} (h : Sim O β S a w) (g : Fz S S') : Sim O β S' a w := by
  have hn : S.base ≤ S.hp.length := by rw [← h.base]; exact h.evo.len
  have one : ∀ {d : DV} {v : Value} {d' : DV}, RelD w β S.hp d v → frz S.base S.hp d = some d' → RelD w β S'.hp d' v ∧ HeapRel w β S'.hp ∧ S'.hp.length = S.base ∧ ∀ b, live β S'.hp b → live β S.hp b := by
    intro d v d' hd hf
    obtain ⟨e, hp', ⟨r1, r2⟩, k2, k3, k4, k5⟩ := vend_sound h.heap hn hd (R := fun e hp' => e = d' ∧ hp' = S'.hp) (by unfold VEnd; rw [hf, g.hp]; exact ⟨rfl, rfl⟩)
    subst r1 r2
    exact ⟨k2, k3, k4, k5⟩
  obtain ⟨_, k3, k4, k5⟩ := one (d := .any) (v := undef) (d' := .any) (.any _) rfl
  refine ⟨h.defers, by rw [g.nt]; exact h.size, fun t => ?_, k3, ?_, h.base.trans g.base.symm⟩
  · rcases tmFz_look g.tm t with e | e
    · rw [e]; exact .any _
    · exact (one (h.tm t) e).1
  · have ev := h.evo
    exact ⟨ev.os, ev.tape, ev.output, ev.size, by rw [k4, ← h.base]; exact Nat.le_refl _, ev.beta, ev.same, ev.shape, fun b hb hl => ev.im b hb (k5 b hl), ev.X⟩
theorem VWp.fz {P : Program} {c : Code} {Q : Exit → St → Prop} {S : St} (S' : St) (g : Fz S S') (h : VWp P c Q S') : VWp P c Q S := fun O β a w hs => h O β a w (hs.fz g)
theorem VLoop.fz {P : Program} {c : Code} {Q : Exit → St → Prop} {S : St} (S' : St) (g : Fz S S') (h : VLoop P c Q S') : VLoop P c Q S := VWp.fz S' g h
end Go.V

/-
  V, part 41: blocks given away for good with a call: the callee may keep what they hold in its answer.
-/
namespace Go.V
open Go

/-- All blocks of the caller are read out, and left behind. -/
theorem VCalls.giveA {P : Program} {g : FuncId} {args args0 : List DV} {hp : Heap} {R : DV → Prop} (ha : allSome (args.map (frzA hp)) = some args0) (c : VCalls P g args0 [] fun r h' => h' = [] ∧ r.nums (fun _ => false) = true ∧ R r) :
    VCalls P g args hp fun r h' => h' = hp.map (fun B => ⟨B.ty, false, []⟩) ∧ R r := by
  refine ⟨fun w β vs hh hr => ?_⟩
  let βc : Map := ⟨fun _ => none, β.X⟩
  have himc : ∀ b, img βc [] b → β.X b := fun b hb => by
    rcases hb with hb | ⟨i, D, h1, _⟩
    · exact hb
    · simp at h1
  have hlv : Leaves w β hp 0 (img βc []) := ⟨fun b hb => .inl (himc b hb), fun k B b _ h1 h2 h3 hb => hh.avoid k B b h1 h2 h3 (himc b hb)⟩
  have hhc : HeapRel w βc [] := ⟨by simp, by simp, by simp, by simp, hh.bound⟩
  obtain ⟨a1, a2⟩ := allSome_get ha
  have hargs : RelL w βc [] args0 vs := by
    refine ⟨by rw [a1]; simpa using hr.1, fun i d hd => ?_⟩
    have h3 := a2 i d hd
    rw [List.getElem?_map] at h3
    obtain ⟨x, x1, x2⟩ := map_eq h3
    exact frzA_sound hh hlv (hr.2 i x x1) x2
  refine (c.run w βc vs hhc hargs).mono ?_
  rintro e w' ⟨v, r, h', β', rfl, ev, hh', hrel, rfl, hf, hR⟩
  have heap_same : ∀ b, b < w.heap.size → w'.heap[b]? = w.heap[b]? := fun b hb => ev.same b hb (by rintro ⟨k, B, h1, _⟩; simp at h1)
  have dead : ∀ (k : Nat) (B : Blk), (hp.map (fun B => (⟨B.ty, false, []⟩ : Blk)))[k]? = some B → B.live = false := fun k B hk => by
    rw [List.getElem?_map] at hk
    obtain ⟨x, _, x2⟩ := map_eq hk
    subst x2; rfl
  have nolive : ∀ b, ¬ live β (hp.map (fun B => (⟨B.ty, false, []⟩ : Blk))) b := by
    rintro b ⟨k, B, h1, h2, _⟩
    rw [dead k B h1] at h2; cases h2
  have e : Evo w β hp w' β (hp.map (fun B => ⟨B.ty, false, []⟩)) := ⟨ev.os, ev.tape, ev.output, ev.size, by simp, fun _ _ => rfl, fun b hb _ => heap_same b hb, fun b C T m h => ⟨C, m, by rw [heap_same b (Array.getElem?_eq_some_iff.1 h).1]; exact h, rfl⟩, fun b _ h => absurd h (nolive b), rfl⟩
  refine ⟨v, r, _, β, rfl, e, ?_, hrel.closed hf ?_, rfl, hR⟩
  · refine ⟨fun k B b h1 h2 h3 => ?_, fun k B h1 h2 h3 => ?_, fun i j B B' b h1 h2 h3 => ?_, fun k B b h1 h2 h3 => ?_, fun b hb => Nat.lt_of_lt_of_le (hh.bound b hb) ev.size⟩
    · rw [dead k B h1] at h2; cases h2
    · rw [dead k B h1] at h2; cases h2
    · rw [dead i B h1] at h3; cases h3
    · rw [dead k B h1] at h2; cases h2
  · rintro b (hb | hb)
    · exact .inl (by rw [ev.X]; exact hb)
    · exact absurd hb (nolive b)

theorem behind_kills {hp : Heap} {sel : List Nat} (hlt : ∀ k ∈ sel, k < hp.length) : behind hp sel ((sel.map fun k => hp.getD k default).map (fun B => ⟨B.ty, false, []⟩)) = kills hp sel := by
  unfold behind
  rw [List.drop_of_length_le (by simp), List.map_nil, List.append_nil]
  apply List.ext_getElem?
  intro k
  rw [kills_at, List.getElem?_map]
  by_cases hk : k < hp.length
  · rw [List.getElem?_range hk, Option.map_some]
    have hget : hp[k]? = some hp[k] := List.getElem?_eq_getElem hk
    by_cases hm : k ∈ sel
    · have hc : sel.contains k = true := by simpa using hm
      have hi := List.idxOf_lt_length_of_mem hm
      rw [if_pos hc, if_pos hm, hget, Option.map_some]
      congr 1
      rw [List.getD_eq_getElem?_getD, List.getElem?_map, List.getElem?_map, List.getElem?_eq_getElem hi]
      simp [renB, hget]
    · have hc : sel.contains k = false := by simpa using hm
      rw [if_neg (by rw [hc]; simp), if_neg hm, List.getD_eq_getElem?_getD, hget]; rfl
  · rw [List.getElem?_eq_none (l := List.range hp.length) (by simpa using hk), List.getElem?_eq_none (l := hp) (by omega)]
    simp

/-- A call to which some blocks are given for good. -/
theorem vc_giveA {P : Program} {g : FuncId} {args args0 : List DV} {hp : Heap} {K : DV → Heap → Prop} {d : DV} (sel : List Nat) (args1 : List DV) (h0 : Heap) (c : VCalls P g args0 [] (Ret d)) (hh0 : h0 = sel.map fun k => hp.getD k default) (hpl : plainL hp sel) (hnd : sel.Nodup)
    (ha1 : args1 = args.map (DV.ren fun j => sel.idxOf j)) (ha : DV.nums.go sel.contains args = true) (hf : allSome (args1.map (frzA h0)) = some args0)
    (h : K d (kills hp sel)) : VCalls P g args hp K := by
  subst hh0
  have c1 := VCalls.giveA (R := fun r => r.nums (fun _ => false) = true ∧ r = d) hf (c.mono fun r h' e => ⟨e.1, e.2.1, e.2⟩)
  refine (VCalls.frame sel hnd (lentTo_plain hpl) (lentOk_plain hpl) c1 ha1 ha).mono ?_
  rintro r h2 ⟨r0, h', ⟨rfl, hn, rfl⟩, _, rfl, rfl⟩
  rw [behind_kills fun k hk => (plainL_get hpl k hk).1, ren_id _ _ hn]
  exact h
end Go.V

/-
  V, part 42: a nil slice in a cell as a slice of the call's own.
-/
namespace Go.V
open Go

end Go.V

/-
  V, part 43: a whole state weakened: slices whose capacity is known become slices.
-/
namespace Go.V
open Go

def Blk.wk (B : Blk) : Blk := ⟨B.ty, B.live, DV.wk.go B.cells⟩
def tmwk (tm : List (Nat × DV)) : List (Nat × DV) := tm.map fun p => (p.1, p.2.wk)
def hpwk (hp : Heap) : Heap := hp.map Blk.wk
theorem DV.wk_one (d : DV) (h : d.one = true) : d.wk.one = true := by
  cases d <;> first | rfl | (simp [DV.one] at h)
theorem look_wk : ∀ (tm : List (Nat × DV)) (t : Nat), look (tmwk tm) t = (look tm t).wk
  | [], _ => rfl
  | (u, d) :: r, t => by
    simp only [tmwk, List.map_cons, look]
    split
    · rfl
    · exact look_wk r t
theorem sim_wk {O : Org} {β : Map} {S : St} {a : Act} {w : World} (h : Sim O β S a w) : Sim O β ⟨S.nt, S.base, tmwk S.tm, hpwk S.hp⟩ a w := by
  have at_ : ∀ {i : Nat} {D : Blk}, (hpwk S.hp)[i]? = some D → ∃ D0, S.hp[i]? = some D0 ∧ D = D0.wk := by
    intro i D hi
    rw [hpwk, List.getElem?_map] at hi
    obtain ⟨x, h1, h2⟩ := map_eq hi
    exact ⟨x, h1, h2.symm⟩
  have lv : ∀ b, live β (hpwk S.hp) b → live β S.hp b := by
    rintro b ⟨i, D, g1, g2, g3⟩
    obtain ⟨D0, e1, rfl⟩ := at_ g1
    exact ⟨i, D0, e1, g2, g3⟩
  have e : Evo w β S.hp w β (hpwk S.hp) :=
    ⟨rfl, rfl, rfl, Nat.le_refl _, by simp [hpwk], fun _ _ => rfl, fun _ _ _ => rfl, fun _ C _ m h => ⟨C, m, h, rfl⟩, fun b _ hb => lv b hb, rfl⟩
  have hh := h.heap
  refine ⟨h.defers, h.size, fun t => by show RelD w β (hpwk S.hp) (look (tmwk S.tm) t) _; rw [look_wk]; exact ((h.tm t).mono e).wk, ?_, h.evo.trans e, h.base⟩
  refine ⟨fun i D b g1 g2 g3 => ?_, fun i D g1 g2 g3 => ?_, fun i i2 D D2 b g1 g2 g3 g4 g5 g6 => ?_, fun i D b g1 g2 g3 => ?_, hh.bound⟩
  · obtain ⟨D0, e1, rfl⟩ := at_ g1
    obtain ⟨C, c1, c2, c3⟩ := hh.blk i D0 b e1 g2 g3
    refine ⟨C, c1, by show (DV.wk.go D0.cells).length ≤ _; rw [wk_go_map, List.length_map]; exact c2, fun n x hx => ?_⟩
    have hx2 : (DV.wk.go D0.cells)[n]? = some x := hx
    rw [wk_go_map, List.getElem?_map] at hx2
    obtain ⟨y, h1, h2⟩ := map_eq hx2
    subst h2
    exact ⟨DV.wk_one _ (c3 n y h1).1, ((c3 n y h1).2.mono e).wk⟩
  · obtain ⟨D0, e1, rfl⟩ := at_ g1
    have := hh.none i D0 e1 g2 g3
    show DV.wk.go D0.cells = []
    rw [this]; rfl
  · obtain ⟨D0, e1, rfl⟩ := at_ g1
    obtain ⟨D1, f1, rfl⟩ := at_ g2
    exact hh.inj i i2 D0 D1 b e1 f1 g3 g4 g5 g6
  · obtain ⟨D0, e1, rfl⟩ := at_ g1
    exact hh.avoid i D0 b e1 g2 g3
end Go.V

/-
  X: of a call's blocks those from a number on are read out and left behind; the others stay.
-/
namespace Go.V
open Go

structure FzN (n : Nat) (S S' : St) : Prop where
  nt : S'.nt = S.nt
  base : S'.base = S.base
  lo : S.base ≤ n
  hi : n ≤ S.hp.length
  hp : frzHeap n S.hp = some S'.hp
  tm : tmFz n S.hp S.tm S'.tm
theorem Sim.fzN {O : Org} {β : Map} {S S' : St} {a : Act} {w : World} {n : Nat} (h : Sim O β S a w) (g : FzN n S S') : Sim O β S' a w := by
  have one : ∀ {d : DV} {v : Value} {d' : DV}, RelD w β S.hp d v → frz n S.hp d = some d' → RelD w β S'.hp d' v ∧ HeapRel w β S'.hp ∧ S'.hp.length = n ∧ ∀ b, live β S'.hp b → live β S.hp b := by
    intro d v d' hd hf
    obtain ⟨e, hp', ⟨r1, r2⟩, k2, k3, k4, k5⟩ := vend_sound h.heap g.hi hd (R := fun e hp' => e = d' ∧ hp' = S'.hp) (by unfold VEnd; rw [hf, g.hp]; exact ⟨rfl, rfl⟩)
    subst r1 r2
    exact ⟨k2, k3, k4, k5⟩
  obtain ⟨_, k3, k4, k5⟩ := one (d := .any) (v := undef) (d' := .any) (.any _) rfl
  refine ⟨h.defers, by rw [g.nt]; exact h.size, fun t => ?_, k3, ?_, h.base.trans g.base.symm⟩
  · rcases tmFz_look g.tm t with e | e
    · rw [e]; exact .any _
    · exact (one (h.tm t) e).1
  · have ev := h.evo
    exact ⟨ev.os, ev.tape, ev.output, ev.size, by rw [k4]; have := h.base; have := g.lo; omega, ev.beta, ev.same, ev.shape, fun b hb hl => ev.im b hb (k5 b hl), ev.X⟩
end Go.V
namespace Go.V
/-- What is asked for fits into a machine. -/
theorem mem_ok {n : Nat} (h : n ≤ 140737488355328) : (n ≤ 140737488355328) = True := eq_true h
end Go.V
namespace Go.V
theorem vslk_fz {α : Type} (e : Enc α) (l : List α) (T : TypeId) (a b : Nat) (h : a ≤ b ∧ b ≤ l.length) : vslk (some (none, T, e.sz)) (fz e l) a b = some (.pv (.sl (fz e ((l.take b).drop a)))) := by
  have h1 : fz e l = [] ∨ (fz e l)[0]?.map List.length = some e.sz := by
    cases l with
    | nil => exact .inl rfl
    | cons x r => exact .inr (fz_has e (x :: r) (by simp))
  simp only [vslk]
  rw [if_pos ⟨h.1, by rw [fz_len]; exact h.2, h1⟩, fz_take, fz_drop]
end Go.V
namespace Go.V
theorem fz_src {α : Type} (e : Enc α) (l : List α) : (fz e l = [] ∨ (fz e l)[0]?.map List.length = some e.sz) = True := by
  refine eq_true ?_
  cases l with
  | nil => exact .inl rfl
  | cons x r => exact .inr (fz_has e (x :: r) (by simp))
end Go.V

/-
  X, the last part: what the simplifier reckons with.
-/
namespace Go.V
open Go
attribute [go_sem ↓] look_cons vlook_t vlook_f vrun_nil code_skip code_region code_draw code_seq code_block code_loop code_exit code_ret onNormal_normal onNormal_ret onNormal_exit onBlock_normal onBlock_ret onBlock_exit vrun_cons run1_some runG_true runG_false run2_none run2_some run3_some runK_eq code_cond vtest_bool vbr_true vbr_false vpost_ret keep_ret vsp_nil vsp_cons vspK_eq
attribute [go_sem] vop_move vcallee_move foot_move vop_assign vcallee_assign vop_pick vcallee_pick foot_pick vop_alloc vcallee_alloc vop_box vcallee_box vop_build vcallee_build vop_buildSlice vcallee_buildSlice vop_load vcallee_load vop_store vcallee_store vop_binOp vcallee_binOp foot_binOp vop_unOp vcallee_unOp vop_convert vcallee_convert vop_makeFunc vcallee_makeFunc vop_slice vcallee_slice vop_fieldAddr vcallee_fieldAddr foot_fieldAddr vop_indexAddr vcallee_indexAddr foot_indexAddr vop_index vcallee_index vop_extract vcallee_extract foot_load foot_call vop_builtin vcallee_builtin vcallee_value vcal_fn ptrNo_ptr conv_pv frz1_fn bin2_tmp bin2_int bin2_str bin2_nil vnilT_sl vnilc_eql isNil_lit vcl2_some vcl3_some bi_clear cl2_own cl2_ownc vpick_bool strip_pv strip_ptr strip_own strip_ip strip_agg strip_tup strip_fn strip_opt vstr_true optV_none optV_some pickV_bool ev_tmp ev_const ev_func ofConst_int ofConst_bool ofConst_string ofConst_slice put_some put_none at_mk fits_some fits_none guard_none guard_some vgof_bool vgof_opt vgof_skip frz_agg frz_pv strip_ownc frz_own frz_tup frzT_agg frzT_pv frzT_own frz1_pv frz1_own allSome_nil allSome_cons frzHeap_zero res_one res_two vres_tmp vres_cell load_ptr load_ip vld_one vld_agg vldp_one vldp_agg store_ptr vst_one vst_agg blk_zero blk_succ set_zero set_succ box_eq alloc_eq val1_some allOne_nil allOne_cons one_pv one_own one_fn faddr_ptr vfap_some faddr_ip vfai_some vpart_eq vpt_agg iaddr_sl vias_some iaddr_own viao_some index_agg viva_some bin_int bin_str int_add int_sub int_mul int_eql int_neq int_lss int_leq int_gtr int_geq int_rem int_shr str_eql str_neq un_not ext_tup len_sl vlk_sl len_own len_str vls_str bi_len bi_append ap2_pv ap2_own ap2_cc ap2_cz vapz1_some vslo_end bi_cap cap_ownc vck_sl cp2_oo cp2_oc cp2_co cp2_cc len_ownc slice_ownc slice_own_hi slice_own_lo slice_ownc_hi slice_ownc_lo slice_ownc_lohi slice_ownc_3 vslo0_some vslo_some vslc0_some vslc_some vslc3_some bi_copy bi_min parts_nil parts_cons enum_nil enum_cons conv_int vci_int evG_eq vfin_some vfinK_some vfin2_some at_hp slice_pv slice_own slice_sl_hi bin_bool vbb_neq bin_agg vba_eql pickV_f pickV_t ptrNo_tup pvs List.flatten_nil List.map_nil dcells vbuild vfill vbuildSlice slOf vsrc vbase vappend vcopy vappendC vcopyC srcL dstC V.kill kills vapz2 List.toList_toArray List.getElem?_cons_zero List.getElem?_cons_succ List.length_cons List.length_nil List.map_cons List.cons_append List.nil_append List.append_nil List.take_succ_cons List.take_zero List.take_nil List.drop_succ_cons List.drop_zero List.drop_nil List.set_cons_zero List.set_cons_succ Option.map_some Option.map_none Option.bind_some Option.getD_some Bool.false_eq_true Int.toNat_natCast Nat.zero_add Nat.add_zero Nat.zero_mul Nat.mul_one Nat.one_mul decide_true decide_false true_and and_true and_self false_and and_false true_or or_true or_false or_self not_true_eq_false not_false_eq_true ne_eq Bool.not_true Bool.not_false Bool.or_true Bool.true_or Bool.or_false Bool.and_true Bool.true_and Bool.and_false Bool.false_and Bool.or_self Bool.and_self Bool.not_not b_beq_t b_beq_f cond_true cond_false Bool.cond_self beq_self_eq_true Nat.lt_irrefl Nat.le_refl vspC_true vspR_eq pick_nil pick_cons pickO_some creas_nil creas_cons creaOk_eq creaM_ptr creaM_own creaOk2_some agree_nil agree_cons agree1_some sameAt_nil sameAt_cons Op.operands frzP_own frzP_pv fz_len List.length_replicate fz_flat RetW DV.wk DV.wk.go PV.wk frzA_agg frzA_ownE frzB_ownE frzA_pv frzB_pv frzA_fn frzF_some frzB_ptrE frzQ_some wrap_i64_in dec_t dec_f int_beq_t int_beq_f int_bne_t int_bne_f Ret DV.nums DV.nums.go
end Go.V

/-
  V, part 45: lists in place: what slices.Insert, Delete and their kin write, for any elements.
-/
namespace Go.V
open Go
/-- x[:n:n] at a slice that nobody writes. -/
def vslk3 (e : Option (Option Nat × TypeId × Nat)) (xs : List (List PV)) (a b c : Nat) : Option DV :=
  match e with
  | some (none, _, sz) => if a ≤ b ∧ b = c ∧ b ≤ xs.length ∧ (xs = [] ∨ (xs[0]?.map List.length) = some sz) then some (.pv (.slc ((xs.take b).drop a))) else none
  | _ => none
theorem slice_sl_3 {P : Program} {T : TypeId} {k2 k3 : IntKind} {j m : Int} {xs : List (List PV)} (h1 : 0 ≤ j) (h2 : 0 ≤ m) : vslice P T (.pv (.sl xs)) none (some (.pv (.lit (.int k2 j)))) (some (.pv (.lit (.int k3 m)))) = vslk3 (velem P T) xs 0 j.toNat m.toNat := by
  unfold vslice vslk3
  rcases velem P T with _ | ⟨_ | n, t, sz⟩ <;> simp [slOf, loOf, hiOf, h1, h2]
theorem vslk3_fz {α : Type} (e : Enc α) (l : List α) (T : TypeId) : vslk3 (some (none, T, e.sz)) (fz e l) 0 l.length l.length = some (.pv (.slc (fz e l))) := by
  unfold vslk3
  have h := fz_src e l
  simp only [fz_len, Nat.zero_le, Nat.le_refl, h, and_self, if_true, List.drop_zero]
  rw [List.take_of_length_le (by rw [fz_len]; exact Nat.le_refl _)]
theorem vslk3_I {l : List Int} {T : TypeId} : vslk3 (some (none, T, 1)) (fz encI l) 0 l.length l.length = some (.pv (.slc (fz encI l))) := vslk3_fz encI l T
attribute [go_sem] slice_sl_3 vslk3_I
variable {α : Type} (e : Enc α)

theorem take_all (l : List α) (n : Nat) (h : n = l.length * e.sz) : (cells e l).take n = cells e l := by rw [List.take_of_length_le]; rw [cells_len]; omega
theorem ins_end (l : List α) (x : α) : cells e l ++ cells e [x] = cells e (l.take l.length ++ x :: l.drop l.length) := by
  rw [List.take_length, List.drop_length, ← cells_app]
theorem ins_tail (l : List α) (i : Nat) : ((cells e l).drop (i * e.sz)).take ((l.length - i) * e.sz) = cells e (l.drop i) := by
  rw [cells_drop, take_all]; rw [List.length_drop]
theorem ins_up (l : List α) (i : Nat) (h : i < l.length) : splice (cells e l) ((i + 1) * e.sz) (((cells e l).drop (i * e.sz)).take ((l.length - i) * e.sz)) = cells e (l.take (i + 1) ++ l.drop i) := by
  have e3 := splice_cells e l (l.drop i) (i + 1)
  rw [List.drop_of_length_le (i := i + 1 + (l.drop i).length) (by rw [List.length_drop]; omega), List.append_nil] at e3
  rw [ins_tail, e3]
theorem ins_in (l : List α) (x : α) (i : Nat) (h : i < l.length) : splice (cells e (l.take (i + 1) ++ l.drop i)) (i * e.sz) (cells e [x]) = cells e (l.take i ++ x :: l.drop i) := by
  have e3 := splice_cells e (l.take (i + 1) ++ l.drop i) [x] i
  have e1 : (l.take (i + 1) ++ l.drop i).take i = l.take i := by rw [List.take_append_of_le_length (by rw [List.length_take]; omega), List.take_take, Nat.min_eq_left (by omega)]
  have e2 : (l.take (i + 1) ++ l.drop i).drop (i + 1) = l.drop i := by rw [List.drop_append_of_le_length (by rw [List.length_take]; omega), List.drop_of_length_le (by rw [List.length_take]; omega), List.nil_append]
  rw [e1, show i + [x].length = i + 1 from rfl, e2, List.append_assoc] at e3
  exact e3
theorem ins_g2 (l : List α) (x : α) (i : Nat) (h : i < l.length) (Z : List DV) : splice (cells e (l.take i) ++ Z) (i * e.sz) (cells e [x]) = cells e (l.take i ++ [x]) ++ Z.drop e.sz := by
  have hl : (cells e (l.take i)).length = i * e.sz := by rw [cells_len, List.length_take, Nat.min_eq_left (by omega)]
  have h1 : (cells e [x]).length = e.sz := by rw [cells_len]; simp
  unfold splice
  rw [← hl, List.take_left' rfl, List.drop_length_add_append, h1, cells_app]
theorem ins_g3 (l : List α) (x : α) (i : Nat) (h : i < l.length) (Z : List DV) (hZ : Z.length = (l.length - i) * e.sz) : splice (cells e (l.take i ++ [x]) ++ Z) ((i + 1) * e.sz) (((cells e l).drop (i * e.sz)).take ((l.length - i) * e.sz)) = cells e (l.take i ++ x :: l.drop i) := by
  have hl : (cells e (l.take i ++ [x])).length = (i + 1) * e.sz := by rw [cells_len, List.length_append, List.length_take, Nat.min_eq_left (by omega)]; rfl
  have h1 : (cells e (l.drop i)).length = (l.length - i) * e.sz := by rw [cells_len, List.length_drop]
  rw [ins_tail]
  unfold splice
  have hz : Z.drop ((l.length - i) * e.sz) = [] := List.drop_of_length_le (by rw [hZ]; exact Nat.le_refl _)
  rw [← hl, List.take_left' rfl, List.drop_length_add_append, h1, hz, List.append_nil, ← cells_app]
  simp
theorem set_in (l : List α) (i : Nat) (x : α) (h : i < l.length) : splice (cells e l) (i * e.sz) ((e.enc x).map DV.pv) = cells e (l.set i x) := by
  have := splice_cells e l [x] i
  rw [List.set_eq_take_append_cons_drop, if_pos h]
  rw [show l.take i ++ x :: l.drop (i + 1) = l.take i ++ [x] ++ l.drop (i + [x].length) by simp, ← this]
  congr 1
  simp [cells]
theorem clear_in (l : List α) (i n : Nat) (z : List DV) (hz : z.length = e.sz) (h : i + n = l.length) : splice (cells e l) (i * e.sz) (mk z n) = cells e (l.take i) ++ mk z n := by
  unfold splice
  rw [cells_take, mk_length, hz, ← Nat.add_mul, h, List.drop_of_length_le (by rw [cells_len]; omega), List.append_nil]
theorem mk_nums (p : Nat → Bool) (z : List DV) (h : DV.nums.go p z = true) : ∀ n, DV.nums.go p (mk z n) = true
  | 0 => rfl
  | n + 1 => go_app h (mk_nums p z h n)
theorem del_up (l : List α) (i : Nat) (h : i < l.length) : splice (cells e l) (i * e.sz) (((cells e l).drop ((i + 1) * e.sz)).take ((l.length - (i + 1)) * e.sz)) = cells e (l.take i ++ l.drop (i + 1) ++ l.drop (l.length - 1)) := by
  have e3 := splice_cells e l (l.drop (i + 1)) i
  rw [List.length_drop, show i + (l.length - (i + 1)) = l.length - 1 by omega] at e3
  rw [ins_tail, e3]
theorem del_up2 (l : List α) (i : Nat) (h : i < l.length) : splice (cells e l) (i * e.sz) ((cells e l).drop ((i + 1) * e.sz)) = cells e (l.take i ++ l.drop (i + 1) ++ l.drop (l.length - 1)) := by
  have e1 := del_up e l i h
  have e2 : ((cells e l).drop ((i + 1) * e.sz)).take ((l.length - (i + 1)) * e.sz) = (cells e l).drop ((i + 1) * e.sz) := by rw [List.take_of_length_le]; rw [List.length_drop, cells_len, ← Nat.sub_mul]; exact Nat.le_refl _
  rwa [e2] at e1
theorem del_len (l : List α) (i : Nat) (h : i < l.length) : (l.take i ++ l.drop (i + 1)).length = l.length - 1 := by rw [List.length_append, List.length_take, List.length_drop]; omega
theorem del_clr (l : List α) (i : Nat) (h : i < l.length) (z : List DV) (hz : z.length = e.sz) : splice (cells e (l.take i ++ l.drop (i + 1) ++ l.drop (l.length - 1))) ((l.length - 1) * e.sz) z = cells e (l.take i ++ l.drop (i + 1)) ++ z := by
  have hl := del_len l i h
  have hc : (l.drop (l.length - 1)).length = 1 := by rw [List.length_drop]; omega
  generalize l.take i ++ l.drop (i + 1) = A at *
  generalize l.drop (l.length - 1) = C at *
  unfold splice
  have h1 : (cells e A).length = (l.length - 1) * e.sz := by rw [cells_len, hl]
  have h2 : (cells e C).length = e.sz := by rw [cells_len, hc, Nat.one_mul]
  rw [cells_app, ← h1, List.take_left' rfl, List.drop_length_add_append, hz, List.drop_of_length_le (by omega), List.append_nil]
theorem del_all (l : List α) (i : Nat) (h : i < l.length) : (cells e (l.take i ++ l.drop (i + 1) ++ l.drop (l.length - 1))).length = l.length * e.sz := by
  rw [cells_len]
  simp only [List.length_append, List.length_take, List.length_drop]
  rw [show min i l.length + (l.length - (i + 1)) + (l.length - (l.length - 1)) = l.length by omega]
end Go.V

/-
  V, part 46: what the caller holds, weakened at a call: nil slices in its blocks become slices without elements.
-/
namespace Go.V
open Go
theorem heap_wk {w : World} {β : Map} {hp : Heap} (hh : HeapRel w β hp) : HeapRel w β (hpwk hp) ∧ Evo w β hp w β (hpwk hp) := by
  have at_ : ∀ {i : Nat} {D : Blk}, (hpwk hp)[i]? = some D → ∃ D0, hp[i]? = some D0 ∧ D = D0.wk := by
    intro i D hi
    rw [hpwk, List.getElem?_map] at hi
    obtain ⟨x, h1, h2⟩ := map_eq hi
    exact ⟨x, h1, h2.symm⟩
  have lv : ∀ b, live β (hpwk hp) b → live β hp b := by
    rintro b ⟨i, D, g1, g2, g3⟩
    obtain ⟨D0, e1, rfl⟩ := at_ g1
    exact ⟨i, D0, e1, g2, g3⟩
  have e : Evo w β hp w β (hpwk hp) :=
    ⟨rfl, rfl, rfl, Nat.le_refl _, by simp [hpwk], fun _ _ => rfl, fun _ _ _ => rfl, fun _ C _ m h => ⟨C, m, h, rfl⟩, fun b _ hb => lv b hb, rfl⟩
  refine ⟨⟨fun i D b g1 g2 g3 => ?_, fun i D g1 g2 g3 => ?_, fun i i2 D D2 b g1 g2 g3 g4 g5 g6 => ?_, fun i D b g1 g2 g3 => ?_, hh.bound⟩, e⟩
  · obtain ⟨D0, e1, rfl⟩ := at_ g1
    obtain ⟨C, c1, c2, c3⟩ := hh.blk i D0 b e1 g2 g3
    refine ⟨C, c1, by show (DV.wk.go D0.cells).length ≤ _; rw [wk_go_map, List.length_map]; exact c2, fun n x hx => ?_⟩
    have hx2 : (DV.wk.go D0.cells)[n]? = some x := hx
    rw [wk_go_map, List.getElem?_map] at hx2
    obtain ⟨y, h1, h2⟩ := map_eq hx2
    subst h2
    exact ⟨DV.wk_one _ (c3 n y h1).1, ((c3 n y h1).2.mono e).wk⟩
  · obtain ⟨D0, e1, rfl⟩ := at_ g1
    have := hh.none i D0 e1 g2 g3
    show DV.wk.go D0.cells = []
    rw [this]; rfl
  · obtain ⟨D0, e1, rfl⟩ := at_ g1
    obtain ⟨D1, f1, rfl⟩ := at_ g2
    exact hh.inj i i2 D0 D1 b e1 f1 g3 g4 g5 g6
  · obtain ⟨D0, e1, rfl⟩ := at_ g1
    exact hh.avoid i D0 b e1 g2 g3
/-- At a call: nil slices in the caller's blocks and in what is handed over are weakened. -/
theorem VCalls.wkH {P : Program} {g : FuncId} {args : List DV} {hp : Heap} {R : DV → Heap → Prop} (c : VCalls P g (DV.wk.go args) (hpwk hp) R) : VCalls P g args hp R := by
  refine VCalls.wkA ⟨fun w β vs hh ha => ?_⟩
  obtain ⟨h1, e1⟩ := heap_wk hh
  refine (c.run w β vs h1 ⟨ha.1, fun i d hd => (ha.2 i d hd).mono e1⟩).mono ?_
  rintro _ w' ⟨v, r, h', β', a, b, c, d, k⟩
  exact ⟨v, r, h', β', a, e1.trans b, c, d, k⟩
theorem hpwk_nil : hpwk [] = [] := rfl
theorem hpwk_cons {B : Blk} {r : Heap} : hpwk (B :: r) = ⟨B.ty, B.live, DV.wk.go B.cells⟩ :: hpwk r := rfl
theorem wk_go_nil : DV.wk.go [] = [] := rfl
theorem wk_go_cons {d : DV} {r : List DV} : DV.wk.go (d :: r) = d.wk :: DV.wk.go r := rfl
end Go.V

/-
  V, part 47: a block of the caller's own that is only read from now on: its address becomes one of cells that nobody writes.
-/
namespace Go.V
open Go
def DV.ipK (k : Nat) (c : List PV) : DV → DV
  | .ptr j off => if j = k ∧ off = 0 then .ip c else .ptr j off
  | .fn f a b => .fn f (go k c a) (go k c b)
  | .agg cs => .agg (go k c cs)
  | d => d
where
  go (k : Nat) (c : List PV) : List DV → List DV
    | [] => []
    | d :: r => d.ipK k c :: go k c r
theorem ipK_go_map (k : Nat) (c : List PV) : ∀ ds : List DV, DV.ipK.go k c ds = ds.map (DV.ipK k c)
  | [] => rfl
  | d :: r => by rw [DV.ipK.go, ipK_go_map k c r]; rfl
theorem dead_at {hp : Heap} {k : Nat} {T : TypeId} {i : Nat} {D : Blk} (h : (hp.set k ⟨T, false, []⟩)[i]? = some D) (hl : D.live = true) : i ≠ k ∧ hp[i]? = some D := by
  rw [List.getElem?_set] at h
  split at h
  · split at h
    · simp at h; subst h; simp at hl
    · simp at h
  · exact ⟨fun e => by rename_i hne; exact hne e.symm, h⟩
theorem dead_heap {w : World} {β : Map} {hp : Heap} {k : Nat} {T : TypeId} (hh : HeapRel w β hp) : HeapRel w β (hp.set k ⟨T, false, []⟩) ∧ Evo w β hp w β (hp.set k ⟨T, false, []⟩) := by
  have lv : ∀ b, live β (hp.set k ⟨T, false, []⟩) b → live β hp b := by
    rintro b ⟨i, D, g1, g2, g3⟩
    exact ⟨i, D, (dead_at g1 g2).2, g2, g3⟩
  have e : Evo w β hp w β (hp.set k ⟨T, false, []⟩) :=
    ⟨rfl, rfl, rfl, Nat.le_refl _, by simp, fun _ _ => rfl, fun _ _ _ => rfl, fun _ C _ m h => ⟨C, m, h, rfl⟩, fun b _ hb => lv b hb, rfl⟩
  refine ⟨⟨fun i D b g1 g2 g3 => ?_, fun i D g1 g2 g3 => hh.none i D (dead_at g1 g2).2 g2 g3, fun i i2 D D2 b g1 g2 g3 g4 g5 g6 => hh.inj i i2 D D2 b (dead_at g1 g3).2 (dead_at g2 g4).2 g3 g4 g5 g6, fun i D b g1 g2 g3 => hh.avoid i D b (dead_at g1 g2).2 g2 g3, hh.bound⟩, e⟩
  obtain ⟨C, c1, c2, c3⟩ := hh.blk i D b (dead_at g1 g2).2 g2 g3
  exact ⟨C, c1, c2, fun n x hx => ⟨(c3 n x hx).1, (c3 n x hx).2.mono e⟩⟩
theorem relD_ipK {w : World} {β : Map} {hp : Heap} {k : Nat} {T : TypeId} {c : List PV} (hh : HeapRel w β hp) (hk : hp[k]? = some ⟨T, true, c.map .pv⟩) {d : DV} {v : Value} (h : RelD w β hp d v) : RelD w β (hp.set k ⟨T, false, []⟩) (d.ipK k c) v := by
  have e := (dead_heap (k := k) (T := T) hh).2
  induction h with
  | ptr j off b hlt hm =>
    simp only [DV.ipK]
    split
    · rename_i hc
      obtain ⟨rfl, rfl⟩ := hc
      obtain ⟨C, c1, c2, c3⟩ := hh.blk j _ b hk rfl hm
      have each : ∀ (n : Nat) (d : PV), c[n]? = some d → n < C.v.size ∧ RelP w (img β hp) d (C.v.getD n undef) := fun n d hn => by
        have h1 := c3 n (.pv d) (by rw [List.getElem?_map, hn]; rfl)
        refine ⟨by have := (List.getElem?_eq_some_iff.1 hn).1; simp at c2; omega, ?_⟩
        cases h1.2 with | pv _ _ hp => exact hp
      have nolive : ¬ img β (hp.set j ⟨T, false, []⟩) b := by
        rintro (hx | ⟨i, D, g1, g2, g3⟩)
        · exact hh.avoid j _ b hk rfl hm hx
        · obtain ⟨q1, q2⟩ := dead_at g1 g2
          exact q1 (hh.inj i j D _ b q2 hk g2 rfl g3 hm)
      refine .ip c ⟨b, 0, none⟩ (fun n => C.v.getD n undef) rfl (fun n d hn => ⟨(Array.getElem?_eq_some_iff.1 c1).1, nolive, ?_⟩) (fun n d hn => (each n d hn).2.mono e.size e.same' e.im')
      have := cell_of_blk (o := n) c1 (each n d hn).1
      simpa [at_] using this
    · exact .ptr j off b (by simpa using hlt) hm
  | agg ds vs h _ ih =>
    simp only [DV.ipK, ipK_go_map]
    refine .agg _ vs (by rw [List.length_map]; exact h) (fun i d hd => ?_)
    rw [List.getElem?_map] at hd
    obtain ⟨x, h1, h2⟩ := map_eq hd
    subst h2; exact ih i x h1
  | fn f ds es vs us h h' _ _ ih ih' =>
    simp only [DV.ipK, ipK_go_map]
    refine .fn f _ _ vs us (by rw [List.length_map]; exact h) (by rw [List.length_map]; exact h') (fun i d hd => ?_) (fun i d hd => ?_)
    · rw [List.getElem?_map] at hd
      obtain ⟨x, h1, h2⟩ := map_eq hd
      subst h2; exact ih i x h1
    · rw [List.getElem?_map] at hd
      obtain ⟨x, h1, h2⟩ := map_eq hd
      subst h2; exact ih' i x h1
  | pv p v h => exact (RelD.pv p v h).mono e
  | own k sz off len cap b C T m h hb h1 h2 h3 h4 => exact (RelD.own k sz off len cap b C T m h hb h1 h2 h3 h4).mono e
  | ownc k sz off len cap b o C T m h hb h1 h2 h3 h4 h5 => exact (RelD.ownc k sz off len cap b o C T m h hb h1 h2 h3 h4 h5).mono e
  | own0 k sz a h hb ha => exact (RelD.own0 k sz a h hb ha).mono e
  | ip cs ad val h1 h2 h3 => exact (RelD.ip cs ad val h1 h2 h3).mono e
  | tup ds vs h h2 _ => exact (RelD.tup ds vs h h2).mono e
  | opt c d v h hf _ => exact (RelD.opt c d v h hf).mono e
  | any v => exact .any v
/-- At a call: the block k is only read from now on. -/
theorem VCalls.ipK {P : Program} {g : FuncId} {args : List DV} {hp : Heap} {R : DV → Heap → Prop} (k : Nat) (c : List PV) {T : TypeId} (hk : hp[k]? = some ⟨T, true, c.map .pv⟩) (cc : VCalls P g (DV.ipK.go k c args) (hp.set k ⟨T, false, []⟩) R) : VCalls P g args hp R := by
  refine ⟨fun w β vs hh ha => ?_⟩
  obtain ⟨h1, e1⟩ := dead_heap (k := k) (T := T) hh
  rw [ipK_go_map] at cc
  refine (cc.run w β vs h1 ⟨by rw [List.length_map]; exact ha.1, fun i d hd => ?_⟩).mono ?_
  · rw [List.getElem?_map] at hd
    obtain ⟨x, q1, q2⟩ := map_eq hd
    subst q2
    exact relD_ipK hh hk (ha.2 i x q1)
  · rintro _ w' ⟨v, r, h', β', a, b, c, d, k⟩
    exact ⟨v, r, h', β', a, e1.trans b, c, d, k⟩
end Go.V

/-
  V, part 48: one state says no less than another; loops and parts with that.
-/
namespace Go.V
open Go
def SimLe (S S' : St) : Prop := ∀ (O : Org) (β : Map) (a : Act) (w : World), Sim O β S a w → ∃ β', Sim O β' S' a w
theorem SimLe.refl (S : St) : SimLe S S := fun _ β _ _ h => ⟨β, h⟩
theorem SimLe.trans {S S1 S2 : St} (h : SimLe S S1) (g : SimLe S1 S2) : SimLe S S2 := fun O β a w hs =>
  let ⟨β1, h1⟩ := h O β a w hs
  g O β1 a w h1
theorem SimLe.weak {S S' : St} (h : Weak S S') : SimLe S S' := fun _ _ _ _ hs => hs.weak h
theorem SimLe.fzN {S S' : St} {n : Nat} (h : FzN n S S') : SimLe S S' := fun _ β _ _ hs => ⟨β, hs.fzN h⟩
theorem SimLe.wk {S S' : St} (h : SimLe ⟨S.nt, S.base, tmwk S.tm, hpwk S.hp⟩ S') : SimLe S S' := fun O β a w hs => h O β a w (sim_wk hs)
theorem VWp.simLe {P : Program} {c : Code} {Q : Exit → St → Prop} {S : St} (S' : St) (g : SimLe S S') (h : VWp P c Q S') : VWp P c Q S := fun O β a w hs =>
  let ⟨β', hs'⟩ := g O β a w hs
  h O β' a w hs'
theorem VLoop.simLe {P : Program} {c : Code} {Q : Exit → St → Prop} {S : St} (S' : St) (g : SimLe S S') (h : VLoop P c Q S') : VLoop P c Q S := VWp.simLe S' g h
theorem VDraw.simLe {P : Program} {id : Nat} {ops : Array Oper} {Q : Exit → St → Prop} {S : St} (S' : St) (g : SimLe S S') (h : VDraw P id ops Q S') : VDraw P id ops Q S := VWp.simLe S' g h
/-- A loop whose rounds may end in any state that says no less than that of the next one. -/
theorem vloopS {P : Program} {c : Code} {Q : Exit → St → Prop} {S : St} {ι : Type} (I : ι → St) (μ : ι → Nat) (i₀ : ι) (h₀ : SimLe S (I i₀))
    (round : ∀ i, vcode P c (onNormal Q fun S' => ∃ j, μ j < μ i ∧ SimLe S' (I j)) (I i)) : VLoop P c Q S := by
  intro O β a w hs b k cs
  have key : ∀ n β i a w, μ i = n → Sim O β (I i) a w →
      ∃ e a' w', lift O Q e a' w' ∧ Arrives P (lone (b.at a (.code c :: .inLoop c :: k)) cs w) b k cs e a' w' := by
    intro n
    induction n using Nat.strongRecOn with
    | _ n ih =>
      intro β i a w hn hs
      obtain ⟨e, a₁, w₁, hq, harr⟩ := vcode_sound c _ _ (round i) O β a w hs b (.inLoop c :: k) cs
      obtain ⟨β₁, S₁, hs₁, hq⟩ := hq
      cases e with
      | normal =>
        obtain ⟨j, hlt, hle⟩ := hq
        obtain ⟨β₂, hs₂⟩ := hle O β₁ a₁ w₁ hs₁
        obtain ⟨e₂, a₂, w₂, hq₂, harr₂⟩ := ih (μ j) (hn ▸ hlt) β₂ j a₁ w₁ rfl hs₂
        exact ⟨e₂, a₂, w₂, hq₂, .of_steps (Steps.trans harr (.one step_inLoop)) harr₂⟩
      | exit id => exact ⟨_, a₁, w₁, ⟨β₁, S₁, hs₁, hq⟩, .pass (x := .inLoop c) rfl (fun _ _ => .inl (by simp)) harr⟩
      | goto l => exact ⟨_, a₁, w₁, ⟨β₁, S₁, hs₁, hq⟩, .pass (x := .inLoop c) rfl (fun _ _ => .inl (by simp)) harr⟩
      | ret => exact ⟨_, a₁, w₁, ⟨β₁, S₁, hs₁, hq⟩, .pass (x := .inLoop c) rfl (fun _ _ => .inl (by simp)) harr⟩
      | panic ch => exact ⟨_, a₁, w₁, ⟨β₁, S₁, hs₁, hq⟩, .pass (x := .inLoop c) rfl (fun _ _ => .inl (by simp)) harr⟩
      | outgrown => exact ⟨_, a₁, w₁, ⟨β₁, S₁, hs₁, hq⟩, .pass (x := .inLoop c) rfl (fun _ _ => .inl (by simp)) harr⟩
  obtain ⟨β₀, hs₀⟩ := h₀ O β a w hs
  obtain ⟨e, a', w', hq, harr⟩ := key _ β₀ i₀ a w rfl hs₀
  exact ⟨e, a', w', hq, .of_steps (.one step_loop) harr⟩
/-- The first n parts of a code, and the rest. -/
def headc : Nat → Code → Code
  | n + 1, .seq a b => .seq a (headc n b)
  | _, _ => .skip
def restc : Nat → Code → Code
  | n + 1, .seq _ b => restc n b
  | _, c => c
theorem vcut {P : Program} : ∀ (n : Nat) {c : Code} {Q : Exit → St → Prop} {S : St}, vcode P (headc n c) (onNormal Q fun S' => ∃ S'', SimLe S' S'' ∧ VWp P (restc n c) Q S'') S → VWp P c Q S
  | 0, c, Q, S, h => by
    have h : ∃ S'', SimLe S S'' ∧ VWp P (restc 0 c) Q S'' := by cases c <;> exact h
    obtain ⟨S'', h1, h2⟩ := h
    cases c <;> exact VWp.simLe S'' h1 h2
  | n + 1, c, Q, S, h => by
    cases c with
    | seq a b =>
      intro O β ac w hs
      simp only [headc, vcode] at h
      refine wp_seq (wp_mono (vcode_sound a _ S h O β ac w hs) fun e a' w' hq => ?_)
      obtain ⟨β', S', hs', hq⟩ := hq
      cases e with
      | normal => exact vcut n (c := b) hq O β' a' w' hs'
      | _ => exact ⟨β', S', hs', hq⟩
    | _ =>
      obtain ⟨S'', h1, h2⟩ := (h : ∃ S'', SimLe S S'' ∧ _)
      exact VWp.simLe S'' h1 h2
theorem tmwk_nil : tmwk [] = [] := rfl
theorem tmwk_cons {t : Nat} {d : DV} {r : List (Nat × DV)} : tmwk ((t, d) :: r) = (t, d.wk) :: tmwk r := rfl
theorem wk_goA (a b : List DV) : DV.wk.go (a ++ b) = DV.wk.go a ++ DV.wk.go b := by rw [wk_go_map, wk_go_map, wk_go_map, List.map_append]
theorem headc_seq {n : Nat} {a b : Code} : headc (n + 1) (.seq a b) = .seq a (headc n b) := rfl
theorem headc_zero {c : Code} : headc 0 c = .skip := by cases c <;> rfl
theorem restc_seq {n : Nat} {a b : Code} : restc (n + 1) (.seq a b) = restc n b := rfl
theorem restc_zero {c : Code} : restc 0 c = c := by cases c <;> rfl
end Go.V
