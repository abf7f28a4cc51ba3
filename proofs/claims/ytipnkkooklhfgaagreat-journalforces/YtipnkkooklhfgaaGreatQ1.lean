/-
  What the law JournalForces needs besides. No condition.
-/
import Derived.Test.YtipnkkooklhfgaaGreatP1
import Derived.Test.YtipnkkooklhfgaaGreatP2
import Derived.Test.YtipnkkooklhfgaaGreatP3
import Derived.Test.YtipnkkooklhfgaaGreatV3
set_option linter.unusedSimpArgs false
set_option linter.unusedVariables false
set_option maxRecDepth 100000
set_option maxHeartbeats 8000000
namespace Go.Proofs.YtipnkkooklhfgaaGreat
open Go.V Go
attribute [local go_sem] cb cc
theorem step_v (c : C) (m n : Nat) (h1 : 1 ≤ m) (h2 : m ≤ 1000) (h3 : 1 ≤ n) (h4 : n ≤ 1000) : VCalls Tryz.prog 103 [.ptr 0 0, .int .i64 m, .int .i64 n, .bool false] [cb c] (CX fun r => ∃ t : Sp, r = .agg t.d ∧ t.kind ≠ 6) := by
  refine dd Tryz.func103 ?_
  (unfold Tryz.f103; refine rn trivial ?_)
  have F := trivial
  refine rn F ?_
  repeat' (first
    | with_reducible exact True.intro
    | (refine sB F ?_ ?_ <;> intro hZ)
    | (refine vc_cx (k := 0) (next_v _ 16 (by omega) (by omega)) rfl rfl ?_; rintro _ _ ⟨_, rfl, _⟩; refine rn F ?_)
    | (refine vc_cx (k := 0) (next_v _ m (by omega) (by omega)) rfl rfl ?_; rintro _ _ ⟨_, rfl, _⟩; refine rn F ?_)
    | (refine vc_cx (k := 0) (next_v _ n (by omega) (by omega)) rfl rfl ?_; rintro _ _ ⟨_, rfl, _⟩; refine rn F ?_)
    | (refine vc_cx (k := 0) (action_v _ m h1 h2) rfl rfl ?_; rintro _ _ ⟨_, rfl, _⟩; refine rn F ?_))
  all_goals exact ⟨_, rfl, rfl, cc_nums _, rfl, ⟨⟨_, _, _, _, _, ⟨_, _, _, _⟩⟩, rfl, by simp⟩, _, rfl⟩
end Go.Proofs.YtipnkkooklhfgaaGreat
namespace Go.Proofs.YtipnkkooklhfgaaGreat
open Go.V Go
attribute [local go_sem] cb cc
theorem no6_app {l : List Sp} (h : no6 l) {t : Sp} (ht : t.kind ≠ 6) : no6 (l ++ [t]) := fun i hi => by
  rw [List.length_append, List.length_singleton] at hi
  rw [List.getD_eq_getElem?_getD]
  by_cases hc : i < l.length
  · rw [List.getElem?_append_left hc, ← List.getD_eq_getElem?_getD]; exact h i hc
  · rw [List.getElem?_append_right (by omega), show i - l.length = 0 by omega]; exact ht
theorem sched_v (c : C) (m most : Nat) (h1 : 1 ≤ m) (h2 : m ≤ 1000) (hm : most ≤ 1000) : VCalls Tryz.prog 88 [.ptr 0 0, .int .i64 m, .int .i64 most, .bool false] [cb c] (CX fun r => ∃ l : List Sp, r = .pv (.sl (fz encV l)) ∧ no6 l ∧ l.length ≤ most + 2) := by
  refine dd Tryz.func88 ?_
  (unfold Tryz.f88; refine rn trivial ?_)
  refine vc_cx (k := 0) (c := c) (next_i c ((most : Int) + 1) (by omega) (by omega)) rfl rfl ?_
  rintro _ c1 ⟨k, rfl, hk⟩
  refine rn trivial ?_
  refine vloopW (fun s : Sd most => ⟨30, 1, [(10, .int .i64 s.k), (9, .own 1 9 0 s.l.length), (3, .bool false), (1, .int .i64 m), (0, .ptr 0 0)], [cb s.c, ⟨161, true, cells encV s.l⟩]⟩) (fun s => s.k) ⟨k, c1, [spB, spB], by simp; omega, fun i hi => by
    have : i = 0 ∨ i = 1 := by simp at hi; omega
    rcases this with rfl | rfl <;> decide⟩ (gc [0, 1]) ?_
  rintro ⟨k, c2, l, hk, h6⟩
  dsimp only
  have hb : (l.length + 1) * 80 ≤ 140737488355328 := by omega
  by_cases hc : 0 < k
  · obtain ⟨k, rfl⟩ : ∃ k' : Nat, k = k' + 1 := ⟨k - 1, by omega⟩
    have hkk : ((k + 1 : Nat) : Int) - 1 = k := by omega
    have F := (And.intro @hb @hkk)
    refine rn F ?_
    refine vc_cx (k := 0) (c := c2) (step_v c2 m 5 h1 h2 (by omega) (by omega)) rfl rfl ?_
    rintro _ c3 ⟨t, rfl, ht⟩
    have F := (And.intro @hb (And.intro @app_V @hkk))
    refine rn F ?_
    have hl2 : (l ++ [t]).length = l.length + 1 := by simp
    refine ⟨⟨k, c3, l ++ [t], by rw [hl2]; omega, no6_app h6 ht⟩, by dsimp only; omega, ?_⟩
    dsimp only
    rw [hl2]
    exact (gc [0, 3])
  · skip
    have F := @hb
    refine rn F ?_
    exact ⟨_, rfl, rfl, cc_nums _, rfl, ⟨l, rfl, h6, by omega⟩, _, rfl⟩
theorem service_v (c : C) (most : Nat) (hm : most ≤ 1000) : VCalls Tryz.prog 62 [.ptr 0 0, .int .i64 most, .bool false] [cb c] (CX fun r => ∃ s : Sv, r = .agg s.d ∧ s.sm ∧ LgI s.k.lg) := by
  refine dd Tryz.func62 ?_
  (unfold Tryz.f62; refine rn trivial ?_)
  refine vc_cx (k := 0) (c := c) (next_v c 4 (by omega) (by omega)) rfl rfl ?_
  rintro _ c1 ⟨x, rfl, hx⟩
  obtain ⟨m, hm1, hm2⟩ : ∃ m : Nat, 1 + (x : Int) = m ∧ m ≤ 4 := ⟨1 + x, by omega, by omega⟩
  refine rn @hm1 ?_
  refine vc_cx (k := 0) (c := c1) (next_v c1 3 (by omega) (by omega)) rfl rfl ?_
  rintro _ c2 ⟨y, rfl, hy⟩
  refine rn trivial ?_
  refine vc_S (rsnew0 m (1 + y) (by omega) (by omega)) rfl ?_
  rintro ⟨s, e⟩ ⟨hs, he, hg⟩
  dsimp only at hs he hg
  subst he
  have F := trivial
  refine rn F ?_
  repeat' (first
    | with_reducible exact True.intro
    | (refine vspine (id := 3) [0, 1, 2, 3, 4] [⟨[], [], 5, [0], []⟩, ⟨[], [], 6, [1, 2, 3, 4], [7, 8, 9, 10]⟩, ⟨[], [], 11, [9, 10], []⟩] (by kernel_rfl) (by kernel_rfl) ?_; refine rn F ?_))
  refine vc_cx (k := 0) (c := c2) (sched_v c2 m most (by omega) (by omega) hm) rfl rfl ?_
  rintro _ c3 ⟨l, rfl, h6, hl⟩
  have c9 := rrun_w LgI (fun x y h hx => ⟨h.ok hx.1, h.f.trans hx.2⟩) s hs l (fun i hi hk => absurd hk (h6 i hi))
  refine rn trivial ?_
  refine vc_S c9 rfl ?_
  rintro ⟨s1, out, rd⟩ ⟨q1, q2⟩
  refine rn trivial ?_
  exact ⟨_, rfl, rfl, cc_nums _, rfl, ⟨s1, rfl, q1, q2 (by rw [hg]; exact ⟨Lg1_ok, rfl⟩)⟩, _, rfl⟩
theorem kernel_v (c : C) (most : Nat) (hm : most ≤ 1000) : VCalls Tryz.prog 38 [.ptr 0 0, .int .i64 most, .bool false] [cb c] (CX fun r => ∃ k : Kn, r = .agg k.d ∧ k.sm ∧ LgI k.lg) := by
  refine dd Tryz.func38 ?_
  (unfold Tryz.f38; refine rn trivial ?_)
  refine vc_cx (k := 0) (c := c) (service_v c most hm) rfl rfl ?_
  rintro _ c1 ⟨s, rfl, hs, hi⟩
  refine rn trivial ?_
  exact ⟨_, rfl, rfl, cc_nums _, rfl, ⟨s.k, rfl, hs.1, hi⟩, _, rfl⟩
end Go.Proofs.YtipnkkooklhfgaaGreat
namespace Go.Proofs.YtipnkkooklhfgaaGreat
open Go.V Go
attribute [local go_sem] cb cc
theorem lgB_dur {f d : Int} {es : List E} (h : lgB ⟨f, es, d⟩ = true) {d' : Int} (h1 : f - 1 ≤ d') (h2 : d' ≤ f + es.length - 1) : lgB ⟨f, es, d'⟩ = true := by
  have hh := lgB_hd h
  simp only [Lg.hd] at hh
  exact lgB_of (x := ⟨f, es, d'⟩) ⟨hh.1, hh.2.1, hh.2.2.1, h1, h2⟩ (show seqE f es from lgB_seq h)
theorem force_ok {es : List E} {d m : Int} (h : lgB ⟨1, es, d⟩ = true) (hm : m ≤ es.length) : forceS ⟨1, es, d⟩ m = (⟨1, es, if m > d then m else d⟩, 0) := by
  unfold forceS Lg.end_
  rw [if_neg (by rw [h]; decide), if_neg (by dsimp only; omega)]
structure Fo (n : Nat) (d0 : Int) (N : Nat) where
  i : Nat
  d : Int
  hi : i ≤ n
  h1 : d0 ≤ d
  h2 : d ≤ N
theorem crash_all {es : List E} (h : lgB ⟨1, es, es.length⟩ = true) : openL (crashL ⟨1, es, es.length⟩ 0) = (⟨1, es, es.length⟩, 0) := by
  obtain ⟨n, h1, h2, h3⟩ := crash_open h 0
  dsimp only at h1 h2 h3
  obtain rfl : n = es.length := by omega
  rw [h3, List.take_length, show (1 : Int) + es.length - 1 = es.length by omega]
theorem jforces_v (l : List UInt8) (hl : l.length ≤ 9223372036854775807) (ns : List UInt8) (hn : ns.length ≤ 9223372036854775807) : VCalls Tryz.prog 8 [.pv (.sl (fz encU l)), .pv (.sl (fz encU ns))] [] (Ret (.bool true)) := by
  refine dd Tryz.func8 ?_
  have c0 := awake6_v
  (unfold Tryz.f8; refine rn trivial ?_)
  by_cases h40 : 40 < (ns.length : Int)
  · skip
    have F := @h40
    refine rn F ?_
    repeat' (first
      | with_reducible exact True.intro
      | refine vp F (c0) ?_)
    all_goals rfl
  have F := @h40
  refine rn F ?_
  repeat' (first
    | with_reducible exact True.intro
    | refine vp F (c0) ?_)
  refine vc_draw (most := 300) (by omega) (by omega) hl fun c => ?_
  refine rn trivial ?_
  refine vc_cx (k := 0) (c := c) (kernel_v c 24 (by omega)) rfl rfl ?_
  rintro _ c1 ⟨k, rfl, hk, hv, hf⟩
  obtain ⟨pg, nx, ⟨f, es, d0⟩, pl, lk, tx, ix, la⟩ := k
  dsimp only at hf
  subst hf
  have hd := lgB_hd hv
  simp only [Lg.hd] at hd
  have hlen : es.length ≤ 4096 := hd.2.2.1
  have F := trivial
  refine rn F ?_
  refine vloopW (fun s : Fo ns.length d0 es.length => ⟨97, 0, [(38, .int .i64 s.i), (37, .int .i64 ns.length), (36, .pv (.sl (fz encU ns))), (8, .ptr 2 0), (7, .int .i64 s.d), (6, .int .i64 es.length), (5, .ptr 1 0)], [cb c1, ⟨25, true, [.int .i64 1, .pv (.sl (fz encE es)), .int .i64 d0]⟩, ⟨25, true, [.int .i64 1, .pv (.sl (fz encE es)), .int .i64 s.d]⟩]⟩) (fun s => ns.length - s.i) ⟨0, d0, Nat.zero_le _, Int.le_refl _, by omega⟩ (gc [0, 1, 2]) ?_
  rintro ⟨i, d, hi, h1, h2⟩
  dsimp only
  have hv2 := lgB_dur hv (d' := d) (by omega) (by omega)
  by_cases hin : i < ns.length
  · have hg := fzU_get ns i hin
    obtain ⟨m, hm, hm2⟩ := tmod_lt' (ns.getD i 0).toNat (es.length + 1) (by omega)
    rw [show ((es.length + 1 : Nat) : Int) = (es.length : Int) + 1 by omega] at hm
    have hb := UInt8.toNat_lt (ns.getD i 0)
    generalize (ns.getD i 0).toNat = b at *
    have c2 := force_v ⟨1, es, d⟩ (by dsimp only; omega) m
    rw [force_ok hv2 (by omega)] at c2
    by_cases hmd : (m : Int) > d
    · rw [if_pos hmd] at c2
      have F := (And.intro @hg (And.intro @hm @hmd))
      refine rn F ?_
      repeat' (first
        | with_reducible exact True.intro
        | refine vp F (c2) ?_
        | (refine vspine (id := 10) [0, 1, 2, 3, 4, 5] [⟨[10], [], 6, [1, 2, 3, 4], [7, 8, 9]⟩, ⟨[10], [10], 11, [9], []⟩, ⟨[], [], 12, [], []⟩] (by kernel_rfl) (by kernel_rfl) ?_; refine rn F ?_))
      exact ⟨⟨i + 1, m, by omega, by omega, by omega⟩, by dsimp only; omega, (gc [0, 1, 2])⟩
    · rw [if_neg hmd] at c2
      have F := (And.intro @hg (And.intro @hm @hmd))
      refine rn F ?_
      repeat' (first
        | with_reducible exact True.intro
        | refine vp F (c2) ?_
        | (refine vspine (id := 10) [0, 1, 2, 3, 4, 5] [⟨[10], [], 6, [1, 2, 3, 4], [7, 8, 9]⟩, ⟨[10], [10], 11, [9], []⟩, ⟨[], [], 12, [], []⟩] (by kernel_rfl) (by kernel_rfl) ?_; refine rn F ?_))
      exact ⟨⟨i + 1, d, by omega, by omega, by omega⟩, by dsimp only; omega, (gc [0, 1, 2])⟩
  · have c3 := force_v ⟨1, es, d⟩ (by dsimp only; omega) es.length
    rw [force_ok hv2 (by omega)] at c3
    have e3 : (if (es.length : Int) > d then (es.length : Int) else d) = es.length := by split <;> omega
    rw [e3] at c3
    have hv3 := lgB_dur hv (d' := es.length) (by omega) (by omega)
    have c4 := jcrash_v ⟨1, es, es.length⟩ (by dsimp only; omega) 0
    have c6 := crash_all hv3
    have hcl : (crashL ⟨1, es, es.length⟩ 0).length ≤ 100000000 := by
      have h9 := headL_len 1
      have h8 := durB_len es es.length
      have h7 := resB_len es es.length
      unfold crashL
      rw [if_pos hv3, List.length_append, List.length_append, List.length_take]
      dsimp only
      omega
    generalize crashL ⟨1, es, es.length⟩ 0 = s at *
    have c5 := jopen_v s hcl
    rw [c6] at c5
    have c7 := rsameL_v ⟨1, es, es.length⟩ ⟨1, es, es.length⟩ (by dsimp only; omega)
    rw [lgS_self] at c7
    have F := trivial
    refine rn F ?_
    repeat' (first
      | with_reducible exact True.intro
      | refine vp F (c3) ?_
      | refine vp F (c4) ?_
      | refine vp F (c5) ?_
      | refine vp F (c7) ?_)
end Go.Proofs.YtipnkkooklhfgaaGreat
