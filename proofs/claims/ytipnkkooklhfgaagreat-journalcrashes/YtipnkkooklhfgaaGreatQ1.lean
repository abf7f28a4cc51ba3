/-
  What the law JournalCrashes needs besides. No condition.
-/
import Derived.Test.YtipnkkooklhfgaaGreatP1
import Derived.Test.YtipnkkooklhfgaaGreatP2
import Derived.Test.YtipnkkooklhfgaaGreatP3
import Derived.Test.YtipnkkooklhfgaaGreatV3
set_option linter.unusedSimpArgs false
set_option linter.unusedVariables false
set_option maxRecDepth 100000
set_option maxHeartbeats 8000000
namespace Go.V
open Go.RowKit Go.WideShapes Go.ChangeShapes
theorem wf_u16 {n : Int} (h : (Lit.int .u16 n).wf = true) : 0 ≤ n ∧ n ≤ 65535 := by
  simp only [Lit.wf, Bool.and_eq_true, decide_eq_true_eq] at h; exact h
end Go.V
namespace Go.Proofs.YtipnkkooklhfgaaGreat
open Go.V Go
theorem Tryz.vt59 : vt Tryz.prog 59 = some none := by kernel_rfl
theorem Tryz.vkind59 : vkind Tryz.prog 59 = .int .u16 := by kernel_rfl
theorem Tryz.vzero59 : vzero Tryz.prog 59 = some [.pv (.lit (.int .u16 0))] := by kernel_rfl
theorem Tryz.bytes59 : bytesT Tryz.prog 59 = some 2 := by kernel_rfl
attribute [go_sem] Tryz.vt59 Tryz.vkind59 Tryz.vzero59 Tryz.bytes59
attribute [local go_sem] cb cc
theorem step_v (c : C) (m n : Nat) (h1 : 1 ≤ m) (h2 : m ≤ 1000) (h3 : 1 ≤ n) (h4 : n ≤ 1000) : VCalls Tryz.prog 103 [.ptr 0 0, .int .i64 m, .int .i64 n, .bool false] [cb c] (CX fun r => ∃ t : Sp, r = .agg t.d ∧ t.kind ≠ 6) := by
  refine dd Tryz.func103 ?_
  (unfold Tryz.f103; refine rn trivial ?_)
  have F := trivial
  refine rn F ?_
  repeat' (first
    | with_reducible exact True.intro
    | (refine sB F ?_ ?_ <;> intro hZ)
    | (refine vc_cx (k := 0) (next_v _ 16 (by omega) (by omega)) rfl rfl ?_; rintro _ _ ⟨_, rfl, _⟩; refine rn F ?_)
    | (refine vc_cx (k := 0) (next_v _ m (by omega) (by omega)) rfl rfl ?_; rintro _ _ ⟨_, rfl, _⟩; refine rn F ?_)
    | (refine vc_cx (k := 0) (next_v _ n (by omega) (by omega)) rfl rfl ?_; rintro _ _ ⟨_, rfl, _⟩; refine rn F ?_)
    | (refine vc_cx (k := 0) (action_v _ m h1 h2) rfl rfl ?_; rintro _ _ ⟨_, rfl, _⟩; refine rn F ?_))
  all_goals exact ⟨_, rfl, rfl, cc_nums _, rfl, ⟨⟨_, _, _, _, _, ⟨_, _, _, _⟩⟩, rfl, by simp⟩, _, rfl⟩
end Go.Proofs.YtipnkkooklhfgaaGreat
namespace Go.Proofs.YtipnkkooklhfgaaGreat
open Go.V Go
attribute [local go_sem] cb cc
theorem no6_app {l : List Sp} (h : no6 l) {t : Sp} (ht : t.kind ≠ 6) : no6 (l ++ [t]) := fun i hi => by
  rw [List.length_append, List.length_singleton] at hi
  rw [List.getD_eq_getElem?_getD]
  by_cases hc : i < l.length
  · rw [List.getElem?_append_left hc, ← List.getD_eq_getElem?_getD]; exact h i hc
  · rw [List.getElem?_append_right (by omega), show i - l.length = 0 by omega]; exact ht
theorem sched_v (c : C) (m most : Nat) (h1 : 1 ≤ m) (h2 : m ≤ 1000) (hm : most ≤ 1000) : VCalls Tryz.prog 88 [.ptr 0 0, .int .i64 m, .int .i64 most, .bool false] [cb c] (CX fun r => ∃ l : List Sp, r = .pv (.sl (fz encV l)) ∧ no6 l ∧ l.length ≤ most + 2) := by
  refine dd Tryz.func88 ?_
  (unfold Tryz.f88; refine rn trivial ?_)
  refine vc_cx (k := 0) (c := c) (next_i c ((most : Int) + 1) (by omega) (by omega)) rfl rfl ?_
  rintro _ c1 ⟨k, rfl, hk⟩
  refine rn trivial ?_
  refine vloopW (fun s : Sd most => ⟨30, 1, [(10, .int .i64 s.k), (9, .own 1 9 0 s.l.length), (3, .bool false), (1, .int .i64 m), (0, .ptr 0 0)], [cb s.c, ⟨161, true, cells encV s.l⟩]⟩) (fun s => s.k) ⟨k, c1, [spB, spB], by simp; omega, fun i hi => by
    have : i = 0 ∨ i = 1 := by simp at hi; omega
    rcases this with rfl | rfl <;> decide⟩ (gc [0, 1]) ?_
  rintro ⟨k, c2, l, hk, h6⟩
  dsimp only
  have hb : (l.length + 1) * 80 ≤ 140737488355328 := by omega
  by_cases hc : 0 < k
  · obtain ⟨k, rfl⟩ : ∃ k' : Nat, k = k' + 1 := ⟨k - 1, by omega⟩
    have hkk : ((k + 1 : Nat) : Int) - 1 = k := by omega
    have F := (And.intro @hb @hkk)
    refine rn F ?_
    refine vc_cx (k := 0) (c := c2) (step_v c2 m 5 h1 h2 (by omega) (by omega)) rfl rfl ?_
    rintro _ c3 ⟨t, rfl, ht⟩
    have F := (And.intro @hb (And.intro @app_V @hkk))
    refine rn F ?_
    have hl2 : (l ++ [t]).length = l.length + 1 := by simp
    refine ⟨⟨k, c3, l ++ [t], by rw [hl2]; omega, no6_app h6 ht⟩, by dsimp only; omega, ?_⟩
    dsimp only
    rw [hl2]
    exact (gc [0, 3])
  · skip
    have F := @hb
    refine rn F ?_
    exact ⟨_, rfl, rfl, cc_nums _, rfl, ⟨l, rfl, h6, by omega⟩, _, rfl⟩
theorem service_v (c : C) (most : Nat) (hm : most ≤ 1000) : VCalls Tryz.prog 62 [.ptr 0 0, .int .i64 most, .bool false] [cb c] (CX fun r => ∃ s : Sv, r = .agg s.d ∧ s.sm ∧ LgI s.k.lg) := by
  refine dd Tryz.func62 ?_
  (unfold Tryz.f62; refine rn trivial ?_)
  refine vc_cx (k := 0) (c := c) (next_v c 4 (by omega) (by omega)) rfl rfl ?_
  rintro _ c1 ⟨x, rfl, hx⟩
  obtain ⟨m, hm1, hm2⟩ : ∃ m : Nat, 1 + (x : Int) = m ∧ m ≤ 4 := ⟨1 + x, by omega, by omega⟩
  refine rn @hm1 ?_
  refine vc_cx (k := 0) (c := c1) (next_v c1 3 (by omega) (by omega)) rfl rfl ?_
  rintro _ c2 ⟨y, rfl, hy⟩
  refine rn trivial ?_
  refine vc_S (rsnew0 m (1 + y) (by omega) (by omega)) rfl ?_
  rintro ⟨s, e⟩ ⟨hs, he, hg⟩
  dsimp only at hs he hg
  subst he
  have F := trivial
  refine rn F ?_
  repeat' (first
    | with_reducible exact True.intro
    | (refine vspine (id := 3) [0, 1, 2, 3, 4] [⟨[], [], 5, [0], []⟩, ⟨[], [], 6, [1, 2, 3, 4], [7, 8, 9, 10]⟩, ⟨[], [], 11, [9, 10], []⟩] (by kernel_rfl) (by kernel_rfl) ?_; refine rn F ?_))
  refine vc_cx (k := 0) (c := c2) (sched_v c2 m most (by omega) (by omega) hm) rfl rfl ?_
  rintro _ c3 ⟨l, rfl, h6, hl⟩
  have c9 := rrun_w LgI (fun x y h hx => ⟨h.ok hx.1, h.f.trans hx.2⟩) s hs l (fun i hi hk => absurd hk (h6 i hi))
  refine rn trivial ?_
  refine vc_S c9 rfl ?_
  rintro ⟨s1, out, rd⟩ ⟨q1, q2⟩
  refine rn trivial ?_
  exact ⟨_, rfl, rfl, cc_nums _, rfl, ⟨s1, rfl, q1, q2 (by rw [hg]; exact ⟨Lg1_ok, rfl⟩)⟩, _, rfl⟩
theorem kernel_v (c : C) (most : Nat) (hm : most ≤ 1000) : VCalls Tryz.prog 38 [.ptr 0 0, .int .i64 most, .bool false] [cb c] (CX fun r => ∃ k : Kn, r = .agg k.d ∧ k.sm ∧ LgI k.lg) := by
  refine dd Tryz.func38 ?_
  (unfold Tryz.f38; refine rn trivial ?_)
  refine vc_cx (k := 0) (c := c) (service_v c most hm) rfl rfl ?_
  rintro _ c1 ⟨s, rfl, hs, hi⟩
  refine rn trivial ?_
  exact ⟨_, rfl, rfl, cc_nums _, rfl, ⟨s.k, rfl, hs.1, hi⟩, _, rfl⟩
end Go.Proofs.YtipnkkooklhfgaaGreat
namespace Go.Proofs.YtipnkkooklhfgaaGreat
open Go.V Go
attribute [local go_sem] cb cc
structure Fo (n : Nat) (d0 : Int) (N : Nat) where
  i : Nat
  d : Int
  hi : i ≤ n
  h1 : d0 ≤ d
  h2 : d ≤ N
theorem crash_all {es : List E} (h : lgB ⟨1, es, es.length⟩ = true) : openL (crashL ⟨1, es, es.length⟩ 0) = (⟨1, es, es.length⟩, 0) := by
  obtain ⟨n, h1, h2, h3⟩ := crash_open h 0
  dsimp only at h1 h2 h3
  obtain rfl : n = es.length := by omega
  rw [h3, List.take_length, show (1 : Int) + es.length - 1 = es.length by omega]
end Go.Proofs.YtipnkkooklhfgaaGreat
namespace Go.Proofs.YtipnkkooklhfgaaGreat
open Go.V Go
attribute [local go_sem] cb cc
theorem crashL_len {x : Lg} (hx : x.es.length ≤ 4096) (t : Int) : (crashL x t).length ≤ 100000000 := by
  have h9 := headL_len x.f
  have h8 := durB_len x.es x.d
  have h7 := resB_len x.es x.d
  unfold crashL
  split
  · rw [List.length_append, List.length_append, List.length_take]
    omega
  · exact Nat.zero_le _
theorem jcrashes_v (l : List UInt8) (hl : l.length ≤ 9223372036854775807) (t : Int) (ht : 0 ≤ t ∧ t ≤ 65535) : VCalls Tryz.prog 5 [.pv (.sl (fz encU l)), .int .u16 t] [] (Ret (.bool true)) := by
  refine dd Tryz.func5 ?_
  have c0 := awake6_v
  (unfold Tryz.f5; refine rn trivial ?_)
  have F := trivial
  refine rn F ?_
  repeat' (first
    | with_reducible exact True.intro
    | refine vp F (c0) ?_)
  refine vc_draw (most := 300) (by omega) (by omega) hl fun c => ?_
  refine rn trivial ?_
  refine vc_cx (k := 0) (c := c) (kernel_v c 24 (by omega)) rfl rfl ?_
  rintro _ c1 ⟨k, rfl, hk, hv, hf⟩
  obtain ⟨pg, nx, ⟨f, es, d0⟩, pl, lk, tx, ix, la⟩ := k
  dsimp only at hf
  subst hf
  have hd := lgB_hd hv
  simp only [Lg.hd] at hd
  have hlen : es.length ≤ 4096 := hd.2.2.1
  obtain ⟨b, rfl⟩ : ∃ b : Nat, t = b := ⟨t.toNat, by omega⟩
  obtain ⟨m, hm, hm2⟩ := tmod_lt' b 1200 (by omega)
  rw [show ((1200 : Nat) : Int) = 1200 from rfl] at hm
  have c2 := jcrash_v ⟨1, es, d0⟩ (by dsimp only; omega) m
  have hs1 := crashL_len (x := ⟨1, es, d0⟩) hlen m
  obtain ⟨n, h1, h2, h3⟩ := crash_open hv m
  dsimp only at h1 h2 h3
  generalize crashL ⟨1, es, d0⟩ m = s1 at *
  have c3 := jopen_v s1 hs1
  rw [h3, show (1 : Int) + n - 1 = n by omega] at c3
  have hxl : (es.take n).length = n := by rw [List.length_take]; omega
  have hv2 : lgB ⟨1, es.take n, (es.take n).length⟩ = true := lgB_of (x := ⟨1, es.take n, (es.take n).length⟩) ⟨Int.le_refl 1, (show (1 : Int) ≤ 1099511627776 by decide), by dsimp only; omega, by dsimp only; omega, by dsimp only; omega⟩ (show seqE 1 (es.take n) from seqE_take (show seqE 1 es from lgB_seq hv) n)
  have h6 := crash_all hv2
  rw [hxl] at h6
  have c4 := jcrash_v ⟨1, es.take n, n⟩ (by dsimp only; omega) 0
  have hs2 := crashL_len (x := ⟨1, es.take n, n⟩) (by dsimp only; omega) 0
  generalize crashL ⟨1, es.take n, n⟩ 0 = s2 at *
  have c5 := jopen_v s2 hs2
  rw [h6] at c5
  have c7 := rsameL_v ⟨1, es.take n, n⟩ ⟨1, es.take n, n⟩ (by dsimp only; omega)
  rw [lgS_self] at c7
  have hd0 : ¬ (n : Int) < d0 := by omega
  have F := (And.intro @hm (And.intro @hxl @hd0))
  refine rn F ?_
  repeat' (first
    | with_reducible exact True.intro
    | refine vp F (c2) ?_
    | refine vp F (c3) ?_
    | refine vp F (c4) ?_
    | refine vp F (c5) ?_)
  all_goals first | (exfalso; omega) | skip
  refine vloopW (fun s : To n => ⟨96, 0, [(11, .int .i64 s.i), (9, .ptr 3 0), (7, .ptr 2 0), (6, .ptr 1 0)], [cb c1, ⟨25, true, [.int .i64 1, .pv (.sl (fz encE es)), .int .i64 d0]⟩, ⟨25, true, [.int .i64 1, .pv (.sl (fz encE (es.take n))), .int .i64 n]⟩, ⟨25, true, [.int .i64 1, .pv (.sl (fz encE (es.take n))), .int .i64 n]⟩]⟩) (fun s => n - s.i) ⟨0, Nat.zero_le _⟩ (gc [0, 1, 2, 3]) ?_
  rintro ⟨i, hi⟩
  dsimp only
  by_cases hin : i < n
  · have hg := fzE_g es i (by omega)
    have hg2 := fzE_g (es.take n) i (by omega)
    rw [getD_take es n i hin] at hg2
    have F := (And.intro @hg (And.intro @hg2 @hxl))
    refine rn F ?_
    repeat' (first
      | with_reducible exact True.intro
      | (refine sB F ?_ ?_ <;> intro hZ)
      | (refine vspine (id := 12) [0, 1, 2, 3, 4, 5, 6, 7, 8, 9, 10] [] (by kernel_rfl) (by kernel_rfl) ?_; refine rn F ?_))
    · exfalso
      simp at hZ
    · exact ⟨⟨i + 1, by omega⟩, by dsimp only; omega, (gc [0, 1, 2, 3])⟩
  · skip
    have F := @hxl
    refine rn F ?_
    repeat' (first
      | with_reducible exact True.intro
      | refine vp F (c7) ?_)
end Go.Proofs.YtipnkkooklhfgaaGreat
