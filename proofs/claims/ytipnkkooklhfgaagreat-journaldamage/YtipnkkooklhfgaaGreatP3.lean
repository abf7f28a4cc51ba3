/-
  Contracts of functions and plain laws. No condition.
-/
import Derived.Test.YtipnkkooklhfgaaGreatP2
import Derived.Test.YtipnkkooklhfgaaGreatV3
set_option linter.unusedSimpArgs false
set_option linter.unusedVariables false
set_option maxRecDepth 100000
set_option maxHeartbeats 8000000
namespace Go.Proofs.YtipnkkooklhfgaaGreat
open Go.V Go
open Tryz (prog)
section
attribute [local go_sem] iteLe
@[go_sem] def tbD (a : Tx × Bool) : DV := .tup [.agg a.1.d, .bool a.2]
theorem rending_w (k : Kn) (h : k.sm) (tx : Int) : VCalls prog 157 [.agg k.d, .int .i64 tx] [] (RetS tbD fun _ => True) := by
  refine dk Tryz.func157 ?_
  have c1 := rkvalid_w k h
  have c2 := rfind_v k.tx (Nat.le_trans h.2.2.2.1.1 (by decide)) tx
  rcases idT_cases k.tx tx with hn | ⟨i, hil, hid, _⟩
  · rw [hn] at c2
    (unfold Tryz.f157; refine rn trivial ?_)
    refine rn F ?_
    repeat' (first
      | with_reducible exact ⟨⟩
      | (refine sB F ?_ ?_ <;> intro hZ)
      | (refine vc_S (c1) rfl ?_; rintro b -; refine rn F ?_)
      | refine vp F (c2) ?_)
    all_goals exact ⟨rfl, rfl, (Tx0, false), rfl, trivial⟩
  rw [hid] at c2
  have hg := fzT_g k.tx i hil
  (unfold Tryz.f157; refine rn trivial ?_)
  have F := @hg
  refine rn F ?_
  repeat' (first
    | with_reducible exact ⟨⟩
    | (refine sB F ?_ ?_ <;> intro hZ)
    | (refine vc_S (c1) rfl ?_; rintro b hb; refine rn F ?_)
    | refine vp F (c2) ?_)
  all_goals first
    | exact ⟨rfl, rfl, (k.tx.getD i Tx0, true), rfl, trivial⟩
    | exact ⟨rfl, rfl, (Tx0, false), rfl, trivial⟩
    | skip
@[go_sem] def blkD (a : Int × Int × Int × Bool) : DV := .tup [.int .i64 a.1, .agg [.int .i64 a.2.1, .int .i64 a.2.2.1], .bool a.2.2.2]
theorem rblocker_w (k : Kn) (h : k.sm) (tx : Int) : VCalls prog 135 [.agg k.d, .int .i64 tx] [] (RetS blkD fun _ => True) := by
  refine dk Tryz.func135 ?_
  have h3 := h.2.2.1
  have c1 := rwaiting_w k.lk (by omega) tx
  have c2 := rfor_w k.lk (by omega) tx
  have c3 := fun n => rending_w k h n
  (unfold Tryz.f135; refine rn trivial ?_)
  refine rn F ?_
  repeat' (first
    | with_reducible exact ⟨⟩
    | (refine sB F ?_ ?_ <;> intro hZ)
    | (refine vc_S (c1) rfl ?_; rintro ⟨g, b⟩ -; refine rn F ?_)
    | (refine vc_S (c2) rfl ?_; rintro l hl; refine rn F ?_))
  all_goals first
    | exact ⟨rfl, rfl, (0, 0, 0, false), rfl, trivial⟩
    | skip
  refine vloopW (fun s : To l.length => ⟨44, 0, [(28, .int .i64 s.i), (27, .int .i64 l.length), (26, .pv (.sl (fz encI l))), (7, .ptr 2 0), (5, .ptr 1 0), (2, .ptr 0 0)], [⟨72, true, k.d⟩, ⟨207, true, [.int .i64 0, .int .i64 0]⟩, ⟨230, true, g.d⟩]⟩) (fun s => l.length - s.i) ⟨0, Nat.zero_le _⟩ (gc [0, 1, 2]) ?_
  rintro ⟨i, hi⟩
  dsimp only
  have hx := fun h : i < l.length => fzI_get l i h
  have F := @hx
  refine rn F ?_
  repeat' (first
    | with_reducible exact ⟨⟩
    | (refine sB F ?_ ?_ <;> intro hZ)
    | (refine vc_S (c3 _) rfl ?_; rintro ⟨t, b3⟩ -; refine rn F ?_)
    | (refine vspine (id := 9) [0, 1, 2] [⟨[], [], 3, [1, 2], []⟩, ⟨[], [], 4, [], []⟩, ⟨[], [], 5, [], []⟩] (by kernel_rfl) (by kernel_rfl) ?_; refine rn F ?_))
  all_goals first
    | exact ⟨rfl, rfl, (_, g.pg, g.sl, true), rfl, trivial⟩
    | exact ⟨rfl, rfl, (0, 0, 0, false), rfl, trivial⟩
    | exact ⟨⟨i + 1, by omega⟩, by dsimp only; omega, (gc [0, 1, 2])⟩
    | skip
theorem rleftK_w (k : Kn) (h : k.sm) : VCalls prog 131 [.agg k.d] [] (RetS ilD fun l => l.length ≤ 65) := by
  refine dk Tryz.func131 ?_
  have h4 := h.2.2.2.1.1
  have c3 := fun n => rending_w k h n
  (unfold Tryz.f131; refine rn trivial ?_)
  refine VLoop.nilOwn 3 3 1 rfl ?_
  refine rn trivial ?_
  refine vloopW (fun s : {s : Nat × List Int // s.1 ≤ k.tx.length ∧ s.2.length ≤ s.1} => ⟨36, 0, [(4, .int .i64 s.1.1), (3, .own 1 1 0 s.1.2.length), (1, .ptr 0 0)], [⟨72, true, k.d⟩, ⟨3, true, cells encI s.1.2⟩]⟩) (fun s => k.tx.length - s.1.1) ⟨(0, []), by simp⟩ (gc [0, 1]) ?_
  rintro ⟨⟨i, out⟩, hi, ho⟩
  dsimp only at hi ho ⊢
  have hg := fun h : i < k.tx.length => fzT_g k.tx i h
  have hb : (out.length + 1) * 8 ≤ 140737488355328 := by omega
  have F := (And.intro @hg @hb)
  refine rn F ?_
  repeat' (first
    | with_reducible exact ⟨⟩
    | (refine sB F ?_ ?_ <;> intro hZ)
    | (refine vc_S (c3 _) rfl ?_; rintro ⟨t, b3⟩ -; refine rn F ?_)
    | (refine vspine (id := 5) [0, 1, 2, 3, 4, 5, 6] [⟨[11], [], 7, [1, 2, 3, 4, 5], [8, 9, 10]⟩, ⟨[11], [11], 12, [10], []⟩, ⟨[], [], 13, [], []⟩] (by kernel_rfl) (by kernel_rfl) ?_; refine rn F ?_))
  all_goals first
    | exact ⟨rfl, rfl, out, rfl, by omega⟩
    | exact ⟨⟨(i + 1, out), by dsimp only; omega, by dsimp only; omega⟩, by dsimp only; omega, (gc [0, 1])⟩
    | exact ⟨⟨(i + 1, out ++ [(k.tx.getD i Tx0).id]), by dsimp only; omega, by simp; omega⟩, by dsimp only; omega, by dsimp only; rw [List.length_append]; exact (gc [0, 4])⟩
    | skip
@[go_sem] def sniD (a : Sv × Nat × Int) : DV := .tup [.agg a.1.d, .int .i64 a.2.1, .int .i64 a.2.2]
def ceQ (s : Sv) (a : Sv × Nat × Int) : Prop := a.1.sm ∧ EvK 0 s.k a.1.k ∧ a.2.1 + s.k.lg.es.length ≤ a.1.k.lg.es.length
structure Rn (s0 : Sv) where
  s : Sv
  n : Nat
  sm : s.sm
  ev : EvK 0 s0.k s.k
  up : n + s0.k.lg.es.length ≤ s.k.lg.es.length
theorem rscell_w (s : Sv) (hs : s.sm) (tx pg sl : Int) : VCalls prog 136 [.agg s.d, .int .i64 tx, .agg [.int .i64 pg, .int .i64 sl]] [] (RetS sniD (ceQ s)) := by
  refine dk Tryz.func136 ?_
  (unfold Tryz.f136; refine rn trivial ?_)
  refine vloopW (fun r : Rn s => ⟨57, 0, [(9, .int .i64 r.n), (6, .ptr 2 0), (5, .ptr 1 0), (3, .ptr 0 0), (1, .int .i64 tx)], [⟨102, true, r.s.d⟩, ⟨207, true, [.int .i64 pg, .int .i64 sl]⟩, ⟨102, true, Zv⟩]⟩) (fun r => 2 * (4096 - r.s.k.lg.es.length) + inP r.s.k.pl.fs pg) ⟨s, 0, hs, EvK.refl _ _, by omega⟩ (gc [0, 1, 2]) ?_
  rintro ⟨s1, n, sm, ev, up⟩
  have hle := sm.1.1
  dsimp only
  unfold Zv
  have d1 := rcell_w s1.k sm.1 tx pg sl
  have d2 := fun p => rfetch_w s1 sm p
  refine rn F ?_
  repeat' (first
    | with_reducible exact ⟨⟩
    | (refine sB F ?_ ?_ <;> intro hZ)
    | (refine vc_S (d1) rfl ?_; rintro ⟨k1, r1⟩ hq; refine rn F ?_)
    | (refine vc_S (d2 _) rfl ?_; rintro ⟨s2, e2⟩ hq2; refine rn F ?_)
    | (refine vspine (id := 6) [0, 1, 2, 3] [⟨[], [], 4, [1, 2, 3], []⟩, ⟨[], [], 5, [2, 3], []⟩, ⟨[], [], 6, [], []⟩] (by kernel_rfl) (by kernel_rfl) ?_; refine rn F ?_))
  all_goals first
    | exact ⟨rfl, rfl, (s1, n, _), rfl, sm, ev, up⟩
    | skip
  · obtain ⟨g1, g2, g3⟩ := hq.2.2.1 (by first | assumption | (dsimp only; omega))
    have q2 := hq2.2 (by dsimp only; omega)
    dsimp only at g1 g2 g3 q2
    rw [g2] at q2
    have hl := q2.1.ev.len
    refine ⟨⟨s2, n, hq2.1, EvK.trans (a := 0) (b := 0) ev q2.1, by omega⟩, ?_, (gc [0, 1, 2])⟩
    unfold inP
    dsimp only
    rw [if_pos q2.2.2, if_neg (by omega)]
    omega
  · have q := hq.2.2.2 (by dsimp only; omega) (by dsimp only; omega) (by dsimp only; omega)
    have hk := hq.1.1
    have h1 := inP_le k1.pl.fs pg
    dsimp only at q hk
    exact ⟨⟨⟨k1, s1.v⟩, n + 1, ⟨hq.1, sm.2⟩, EvK.trans (a := 0) (b := 0) ev hq.2.1, by dsimp only; omega⟩, by dsimp only; omega, (gc [0, 1, 2])⟩
end
section
attribute [local go_sem] iteLe
theorem rido_w (s : Sv) (hs : s.sm) (tx : Int) (a : Ac) : VCalls prog 122 [.agg s.d, .int .i64 tx, .agg a.d] [] (RetS srD (sdoQ s)) := by
  refine dk Tryz.func122 ?_
  (unfold Tryz.f122; refine rn trivial ?_)
  refine vloopW (fun r : Re s => ⟨58, 0, [(7, .ptr 3 0), (6, .ptr 2 0), (5, .ptr 1 0), (3, .ptr 0 0), (1, .int .i64 tx)], [⟨102, true, r.s.d⟩, ⟨159, true, a.d⟩, ⟨102, true, Zv⟩, ⟨156, true, Zr⟩]⟩) (fun r => 4096 - r.s.k.lg.es.length) ⟨s, hs, EvK.refl _ _⟩ (gc [0, 1, 2, 3]) ?_
  rintro ⟨s1, sm, ev⟩
  dsimp only
  unfold Zv Zr
  have d1 := rsdo_w s1 sm tx a
  have d2 := fun (t : Sv) (h : t.sm) => rblocker_w t.k h.1 tx
  have d3 := fun (t : Sv) (h : t.sm) => rscell_w t h
  refine rn F ?_
  repeat' (first
    | with_reducible exact ⟨⟩
    | (refine sB F ?_ ?_ <;> intro hZ)
    | (refine vc_S (d1) rfl ?_; rintro ⟨s2, r2⟩ hq; refine rn F ?_)
    | (refine vc_S (d2 s2 hq.1) rfl ?_; rintro ⟨x, p, q, b⟩ -; refine rn F ?_)
    | (refine vc_S (d3 s2 hq.1 _ _ _) rfl ?_; rintro ⟨s3, n, e3⟩ hq3; refine rn F ?_)
    | refine vp F (failed_v _) ?_
    | (refine vspine (id := 4) [0, 1] [⟨[], [], 2, [1], []⟩, ⟨[], [], 3, [], []⟩] (by kernel_rfl) (by kernel_rfl) ?_; refine rn F ?_)
    | (refine vspine (id := 7) [0, 1] [⟨[], [], 2, [1], []⟩, ⟨[], [], 3, [], []⟩] (by kernel_rfl) (by kernel_rfl) ?_; refine rn F ?_)
    | (refine vspine (id := 11) [0, 1] [⟨[], [], 2, [0], []⟩, ⟨[], [], 3, [1], []⟩, ⟨[], [], 4, [], []⟩] (by kernel_rfl) (by kernel_rfl) ?_; refine rn F ?_)
    | (refine vspine (id := 13) [0, 1] [⟨[], [], 2, [1], []⟩, ⟨[], [], 3, [], []⟩] (by kernel_rfl) (by kernel_rfl) ?_; refine rn F ?_))
  all_goals first
    | exact ⟨rfl, rfl, (s2, r2), rfl, hq.1, EvK.trans (a := 0) (b := 4) ev hq.2.1, fun h => EvK.trans (a := 0) (b := 0) ev (hq.2.2 h)⟩
    | exact ⟨rfl, rfl, (s3, failR e3), rfl, hq3.1, EvK.trans (a := 4) (b := 0) (EvK.trans (a := 0) (b := 4) (c := 4) ev hq.2.1) hq3.2.1, fun h => by simp [failR] at h⟩
    | exact ⟨rfl, rfl, (s3, r2), rfl, hq3.1, EvK.trans (a := 4) (b := 0) (EvK.trans (a := 0) (b := 4) (c := 4) ev hq.2.1) hq3.2.1, fun h => EvK.trans (a := 0) (b := 0) (EvK.trans (a := 0) (b := 0) (c := 0) ev (hq.2.2 h)) hq3.2.1⟩
    | skip
  have hw := hq.2.2 (by first | assumption | (dsimp only; omega))
  have h1 := hq.2.1.ev.len
  have h2 := hq3.2.2
  have h3 := hq3.1.1.1
  dsimp only at h1 h2 h3
  exact ⟨⟨s3, hq3.1, EvK.trans (a := 0) (b := 0) (EvK.trans (a := 0) (b := 0) (c := 0) ev hw) hq3.2.1⟩, by dsimp only; omega, (gc [0, 1, 2, 3])⟩
@[go_sem] def sbiD (a : Sv × Bool × Int) : DV := .tup [.agg a.1.d, .bool a.2.1, .int .i64 a.2.2]
def wkQ (s : Sv) (a : Sv × Bool × Int) : Prop := a.1.sm ∧ (a.2.2 = 0 → EvK 0 s.k a.1.k)
theorem rwork_w (s : Sv) (hs : s.sm) : VCalls prog 118 [.agg s.d] [] (RetS sbiD (wkQ s)) := by
  refine dk Tryz.func118 ?_
  have c1 := rkvalid_w s.k hs.1
  have c2 := fun n => rfetch_w s hs n
  have c3 := rleftK_w s.k hs.1
  have hg := fun h : 0 < s.k.la.length => fzY_at s.k.la 0 h
  have e0 : ∀ e, e ≠ 0 → wkQ s (Sv0, false, e) := fun e h => ⟨Sv0_sm, fun h2 => absurd h2 h⟩
  (unfold Tryz.f118; refine rn trivial ?_)
  have F := @hg
  refine rn F ?_
  repeat' (first
    | with_reducible exact ⟨⟩
    | (refine sB F ?_ ?_ <;> intro hZ)
    | (refine vc_S (c1) rfl ?_; rintro b -; refine rn F ?_)
    | (refine vc_S (c2 _) rfl ?_; rintro ⟨s2, e2⟩ hq; refine rn F ?_)
    | (refine vc_S (c3) rfl ?_; rintro l hl; refine rn F ?_)
    | (refine vspine (id := 4) [0, 1, 2, 3, 4, 5, 6] [⟨[11], [], 7, [1, 2, 3, 4, 5], [8, 9, 10]⟩, ⟨[11], [11], 12, [10], []⟩, ⟨[], [], 13, [], []⟩] (by kernel_rfl) (by kernel_rfl) ?_; refine rn F ?_))
  all_goals first
    | exact ⟨rfl, rfl, (Sv0, false, 15), rfl, e0 _ (by decide)⟩
    | exact ⟨rfl, rfl, (s, false, 0), rfl, hs, fun _ => EvK.refl _ _⟩
    | exact ⟨rfl, rfl, (s2, _, e2), rfl, hq.1, fun h => (hq.2 h).1⟩
    | skip
  have hg0 := fun h : 0 < l.length => fzI_get l 0 h
  generalize l.getD 0 0 = tx at *
  refine vloopW (fun r : Re s => ⟨77, 0, [(7, .pv (.sl (fz encI l))), (2, .ptr 1 0), (1, .ptr 0 0)], [⟨102, true, r.s.d⟩, ⟨102, true, Zv⟩]⟩) (fun r => rbM tx r.s) ⟨s, hs, EvK.refl _ _⟩ (gc [0, 1]) ?_
  rintro ⟨s1, sm, ev⟩
  dsimp only
  unfold Zv
  have d2 := rstep_w s1.k sm.1 tx
  have d3 := fun n => rfetch_w s1 sm n
  have F := @hg0
  refine rn F ?_
  repeat' (first
    | with_reducible exact ⟨⟩
    | (refine sB F ?_ ?_ <;> intro hZ)
    | (refine vc_S (d2) rfl ?_; rintro ⟨k1, r1⟩ hq; refine rn F ?_)
    | (refine vc_S (d3 _) rfl ?_; rintro ⟨s2, e2⟩ hq2; refine rn F ?_)
    | (refine vspine (id := 9) [0, 1, 2, 3, 4] [⟨[9, 10], [], 5, [0, 2, 3], [6, 7, 8]⟩, ⟨[9, 10], [9], 11, [8], []⟩, ⟨[10], [10], 12, [], []⟩] (by kernel_rfl) (by kernel_rfl) ?_; refine rn F ?_)
    | (refine vspine (id := 11) [0, 1, 2] [⟨[], [], 3, [1, 2], []⟩, ⟨[], [], 4, [1, 2], []⟩, ⟨[], [], 5, [], []⟩] (by kernel_rfl) (by kernel_rfl) ?_; refine rn F ?_))
  all_goals first
    | exact ⟨rfl, rfl, (Sv0, false, e2), rfl, e0 _ (by assumption)⟩
    | exact ⟨rfl, rfl, (Sv0, false, r1.er), rfl, e0 _ (hq.2.2.2.2 (by assumption))⟩
    | exact ⟨rfl, rfl, (⟨k1, s1.v⟩, true, 0), rfl, ⟨hq.1, sm.2⟩, fun _ => EvK.trans (a := 0) (b := 0) ev hq.2.1⟩
    | skip
  obtain ⟨v, _, g1, g2, g3⟩ := hq.2.2.1 (by first | assumption | (dsimp only; omega))
  have q2 := hq2.2 (by dsimp only; omega)
  dsimp only at g1 g3 q2
  rw [g1] at g3 q2
  exact ⟨⟨s2, hq2.1, EvK.trans (a := 0) (b := 0) ev q2.1⟩, rbM_page q2.1.ev q2.2.1 g2 g3 q2.2.2, (gc [0, 1])⟩
end
@[go_sem] def stD (s : List UInt8) : DV := .pv (.str s)
theorem rput_w (s : List UInt8) (hs : s.length ≤ 1000000000) (n : Int) (k : Nat) (h1 : 1 ≤ k) (h8 : k ≤ 8) : VCalls prog 70 [.pv (.str s), .int .i64 n, .int .i64 k] [] (RetS stD fun t => t.length = s.length + k) :=
  (rput_v s hs n k h1 h8).toS (putL s n k) rfl (putL_len s n k)
theorem rput1 (s : List UInt8) (hs : s.length ≤ 1000000000) (n : Int) : VCalls prog 70 [.pv (.str s), .int .i64 n, .int .i64 1] [] (RetS stD fun t => t.length = s.length + 1) := rput_w s hs n 1 (by omega) (by omega)
theorem rput2 (s : List UInt8) (hs : s.length ≤ 1000000000) (n : Int) : VCalls prog 70 [.pv (.str s), .int .i64 n, .int .i64 2] [] (RetS stD fun t => t.length = s.length + 2) := rput_w s hs n 2 (by omega) (by omega)
theorem rput4 (s : List UInt8) (hs : s.length ≤ 1000000000) (n : Int) : VCalls prog 70 [.pv (.str s), .int .i64 n, .int .i64 4] [] (RetS stD fun t => t.length = s.length + 4) := rput_w s hs n 4 (by omega) (by omega)
theorem rput8 (s : List UInt8) (hs : s.length ≤ 1000000000) (n : Int) : VCalls prog 70 [.pv (.str s), .int .i64 n, .int .i64 8] [] (RetS stD fun t => t.length = s.length + 8) := rput_w s hs n 8 (by omega) (by omega)
theorem rnumbers_w (s : List UInt8) (hs : s.length ≤ 800000000) (l : List Int) (hl : l.length ≤ 100000) : VCalls prog 221 [.pv (.str s), .pv (.sl (fz encI l))] [] (RetS stD fun t => t.length ≤ s.length + 800000) := by
  refine dd Tryz.func221 ?_
  (unfold Tryz.f221; refine rn trivial ?_)
  refine vloopW (fun r : {r : Nat × List UInt8 // r.1 ≤ l.length ∧ r.2.length = s.length + 8 * r.1} => ⟨19, 0, [(5, .int .i64 r.1.1), (1, .pv (.sl (fz encI l))), (0, .pv (.str r.1.2))], []⟩) (fun r => l.length - r.1.1) ⟨(0, s), by simp⟩ (gc []) ?_
  rintro ⟨⟨i, t⟩, hi, ht⟩
  dsimp only at hi ht ⊢
  have hg := fun h : i < l.length => fzI_get l i h
  have c1 := rput8 t (by omega)
  have F := @hg
  refine rn F ?_
  repeat' (first
    | with_reducible exact ⟨⟩
    | (refine sB F ?_ ?_ <;> intro hZ)
    | (refine vc_S (c1 _) rfl ?_; rintro u hu; refine rn F ?_))
  all_goals first
    | exact ⟨⟨(i + 1, u), by dsimp only; omega, by dsimp only; omega⟩, by dsimp only; omega, (gc [])⟩
    | exact ⟨rfl, rfl, t, rfl, by omega⟩
    | skip
theorem rtenc_w (l : List Tx) (hl : smN 65 l) : VCalls prog 180 [.pv (.sl (fz encT l))] [] (RetS siD fun a => a.1.length ≤ 200000000) := by
  refine dd Tryz.func180 ?_
  have c1 := rtvalid_v l (hl.smL (by omega))
  have h1 := hl.1
  have c2 := rput2 [] (by simp)
  generalize tblB l = b at *
  (unfold Tryz.f180; refine rn trivial ?_)
  refine rn F ?_
  repeat' (first
    | with_reducible exact ⟨⟩
    | (refine sB F ?_ ?_ <;> intro hZ)
    | refine vp F (c1) ?_
    | (refine vc_S (c2 _) rfl ?_; rintro u hu; refine rn F ?_))
  all_goals first
    | exact ⟨rfl, rfl, ([], 15), rfl, by simp⟩
    | skip
  refine vloopW (fun r : {r : Nat × List UInt8 // r.1 ≤ l.length ∧ r.2.length ≤ 2 + 1600024 * r.1} => ⟨56, 0, [(5, .int .i64 r.1.1), (4, .pv (.str r.1.2)), (0, .pv (.sl (fz encT l)))], []⟩) (fun r => l.length - r.1.1) ⟨(0, u), by simp at hu ⊢; omega⟩ (gc []) ?_
  rintro ⟨⟨i, t⟩, hi, ht⟩
  dsimp only at hi ht ⊢
  have hg := fun h : i < l.length => fzT_g l i h
  have hss : i < l.length → (l.getD i Tx0).l.length ≤ 100000 ∧ (l.getD i Tx0).s.length ≤ 100000 := fun h => by rw [getD_eq _ _ h]; exact hl.2 _ (List.getElem_mem h)
  generalize l.getD i Tx0 = x at *
  by_cases hil : i < l.length
  rotate_left
  · skip
    have F := @hg
    refine rn F ?_
    exact ⟨rfl, rfl, (t, 0), rfl, by dsimp only; omega⟩
  obtain ⟨s1, s2⟩ := hss hil
  have F := @hg
  refine rn F ?_
  repeat' (first
    | with_reducible exact ⟨⟩
    | (refine vc_S (rput4 t (by omega) x.id) rfl ?_; rintro u1 hu1; refine rn F ?_)
    | (refine vc_S (rput1 u1 (by omega) x.st) rfl ?_; rintro u2 hu2; refine rn F ?_)
    | (refine vc_S (rput8 u2 (by omega) x.n) rfl ?_; rintro u3 hu3; refine rn F ?_)
    | (refine vc_S (rput8 u3 (by omega) x.b) rfl ?_; rintro u4 hu4; refine rn F ?_)
    | (refine vc_S (rput2 u4 (by omega) _) rfl ?_; rintro u5 hu5; refine rn F ?_)
    | (refine vc_S (rnumbers_w u5 (by omega) x.l s1) rfl ?_; rintro u6 hu6; refine rn F ?_)
    | (refine vc_S (rput1 u6 (by omega) x.s.length) rfl ?_; rintro u7 hu7; refine rn F ?_)
    | (refine vc_S (rnumbers_w u7 (by omega) x.s s2) rfl ?_; rintro u8 hu8; refine rn F ?_)
    | (refine vspine (id := 12) [0, 1, 2, 3, 5, 6] [⟨[], [], 4, [1, 2, 5, 6], []⟩, ⟨[], [], 7, [0, 1, 2, 3, 5], []⟩, ⟨[], [], 8, [], []⟩] (by kernel_rfl) (by kernel_rfl) ?_; refine rn F ?_)
    | (refine vspine (id := 13) [0, 1, 2, 3, 5, 6] [⟨[], [], 4, [1, 2, 5, 6], []⟩, ⟨[], [], 7, [0, 1, 2, 3, 5], []⟩, ⟨[], [], 8, [], []⟩] (by kernel_rfl) (by kernel_rfl) ?_; refine rn F ?_))
  all_goals first
    | exact ⟨⟨(i + 1, u8), hil, Nat.le_trans (show u8.length ≤ (2 + 1600024 * i) + 1600024 by omega) (by rw [Nat.mul_succ]; exact Nat.le_of_eq (Nat.add_assoc _ _ _))⟩, by dsimp only; omega, (gc [])⟩
    | skip
theorem rixenc_w (l : List Rw) (hl : l.length ≤ 64) : VCalls prog 181 [.agg [.pv (.sl (fz encR l))]] [] (RetS siD fun a => a.1.length ≤ 2000) := by
  refine dd Tryz.func181 ?_
  have c1 := rixvalid_v l (by omega)
  have c2 := rput2 [] (by simp)
  generalize ixB l = b at *
  (unfold Tryz.f181; refine rn trivial ?_)
  refine rn F ?_
  repeat' (first
    | with_reducible exact ⟨⟩
    | (refine sB F ?_ ?_ <;> intro hZ)
    | refine vp F (c1) ?_
    | (refine vc_S (c2 _) rfl ?_; rintro u hu; refine rn F ?_))
  all_goals first
    | exact ⟨rfl, rfl, ([], 28), rfl, by simp⟩
    | skip
  refine vloopW (fun r : {r : Nat × List UInt8 // r.1 ≤ l.length ∧ r.2.length ≤ 2 + 24 * r.1} => ⟨45, 0, [(5, .int .i64 r.1.1), (4, .pv (.str r.1.2)), (1, .ptr 0 0)], [⟨69, true, [.pv (.sl (fz encR l))]⟩]⟩) (fun r => l.length - r.1.1) ⟨(0, u), by simp at hu ⊢; omega⟩ (gc [0]) ?_
  rintro ⟨⟨i, t⟩, hi, ht⟩
  dsimp only at hi ht ⊢
  have hg := fun h : i < l.length => fzR_at l i h
  generalize l.getD i Rw0 = x at *
  have F := @hg
  refine rn F ?_
  repeat' (first
    | with_reducible exact ⟨⟩
    | (refine sB F ?_ ?_ <;> intro hZ)
    | (refine vc_S (rput8 t (by omega) x.lsn) rfl ?_; rintro u1 hu1; refine rn F ?_)
    | (refine vc_S (rput8 u1 (by omega) x.im) rfl ?_; rintro u2 hu2; refine rn F ?_)
    | (refine vc_S (rput8 u2 (by omega) x.at_) rfl ?_; rintro u3 hu3; refine rn F ?_))
  all_goals first
    | exact ⟨⟨(i + 1, u3), by dsimp only; omega, by dsimp only; omega⟩, by dsimp only; omega, (gc [0])⟩
    | exact ⟨rfl, rfl, (t, 0), rfl, by dsimp only; omega⟩
    | skip
section
attribute [local go_sem] frzHeap
structure Cp where
  pg : Int
  nx : Int
  tx : List Tx
  dl : List Dt
  ix : List Rw
@[go_sem] def Cp.d (c : Cp) : List DV := [.int .i64 c.pg, .int .i64 c.nx, .pv (.sl (fz encT c.tx)), .pv (.sl (fz encY c.dl)), .pv (.sl (fz encR c.ix))]
def Cp0 : Cp := ⟨0, 0, [], [], []⟩
def Cp.sm (c : Cp) : Prop := smN 65 c.tx ∧ c.dl.length ≤ 10000 ∧ c.ix.length ≤ 64
theorem Cp0_sm : Cp0.sm := ⟨smN_nil _, by decide, by decide⟩
@[go_sem] def cpD2 (a : Cp × Int) : DV := .tup [.agg a.1.d, .int .i64 a.2]
def Zc : List DV := [.int .i64 0, .int .i64 0, .pv (.slc []), .pv (.slc []), .pv (.slc [])]
theorem rcpof_w (k : Kn) (h : k.sm) : VCalls prog 144 [.agg k.d] [] (RetS cpD2 fun a => a.1.sm) := by
  refine dk Tryz.func144 ?_
  have c1 := rkvalid_w k h
  obtain ⟨h1, h2, h3, h4, h5, h6⟩ := h
  have c2 := fun n => rlacks_w k (by omega) n
  have c3 := rpdirty_v k.pl (by omega)
  (unfold Tryz.f144; refine rn trivial ?_)
  refine vc_S c1 rfl ?_
  rintro b hb
  cases b
  · skip
    refine rn F ?_
    exact ⟨rfl, rfl, (Cp0, 15), rfl, Cp0_sm⟩
  have hv := (hb rfl).1
  refine rn F ?_
  refine VLoop.nilOwnC 2 3 200 3 rfl rfl ?_
  refine rn trivial ?_
  refine vloopW (fun s : {s : Nat × List Dt // s.1 ≤ 64 ∧ s.2.length ≤ 65 * s.1} => ⟨62, 0, [(5, .int .i64 s.1.1), (4, .ptr 2 0), (2, .ptr 1 0), (1, .ptr 0 0)], [⟨72, true, k.d⟩, ⟨219, true, Zc⟩, ⟨219, true, [.int .i64 k.pg, .int .i64 k.nx, .pv (.sl (fz encT k.tx)), .own 3 3 0 s.1.2.length, .pv (.sl (fz encR k.ix))]⟩, ⟨200, true, cells encY s.1.2⟩]⟩) (fun s => 64 - s.1.1) ⟨(0, []), by simp⟩ (gc [0, 1, 2, 3]) ?_
  rintro ⟨⟨i, out⟩, hi, ho⟩
  dsimp only at hi ho ⊢
  unfold Zc
  have hb1 : (out.length + 1) * 24 ≤ 140737488355328 := by omega
  have F := @hb1
  refine rn F ?_
  repeat' (first
    | with_reducible exact ⟨⟩
    | (refine sB F ?_ ?_ <;> intro hZ)
    | (refine vc_S (c2 _) rfl ?_; rintro ⟨d, b2⟩ -; refine rn F ?_)
    | (refine vc_S (c3) rfl ?_; rintro l hl; refine rn F ?_))
  rotate_left 2
  · exact ⟨rfl, rfl, (⟨k.pg, k.nx, k.tx, out, k.ix⟩, 0), rfl, h4, by dsimp only; omega, h5⟩
  all_goals
    first
      | refine vloopW (fun s : {s : Nat × List Dt // s.1 ≤ l.length ∧ s.2.length ≤ 65 * i + 1 + s.1} => ⟨62, 0, [(46, .int .i64 s.1.1), (45, .int .i64 l.length), (44, .pv (.sl (fz encY l))), (5, .int .i64 i), (4, .ptr 2 0), (2, .ptr 1 0), (1, .ptr 0 0)], [⟨72, true, k.d⟩, ⟨219, true, Zc⟩, ⟨219, true, [.int .i64 k.pg, .int .i64 k.nx, .pv (.sl (fz encT k.tx)), .own 3 3 0 s.1.2.length, .pv (.sl (fz encR k.ix))]⟩, ⟨200, true, cells encY s.1.2⟩]⟩) (fun s => l.length - s.1.1) ⟨(0, out ++ [⟨d.pg, d.rc, d.last⟩]), by dsimp only; rw [List.length_append]; exact ⟨Nat.zero_le _, by simp; omega⟩⟩ (by dsimp only; rw [List.length_append]; exact (gc [0, 1, 2, 6])) ?_
      | refine vloopW (fun s : {s : Nat × List Dt // s.1 ≤ l.length ∧ s.2.length ≤ 65 * i + 1 + s.1} => ⟨62, 0, [(46, .int .i64 s.1.1), (45, .int .i64 l.length), (44, .pv (.sl (fz encY l))), (5, .int .i64 i), (4, .ptr 2 0), (2, .ptr 1 0), (1, .ptr 0 0)], [⟨72, true, k.d⟩, ⟨219, true, Zc⟩, ⟨219, true, [.int .i64 k.pg, .int .i64 k.nx, .pv (.sl (fz encT k.tx)), .own 3 3 0 s.1.2.length, .pv (.sl (fz encR k.ix))]⟩, ⟨200, true, cells encY s.1.2⟩]⟩) (fun s => l.length - s.1.1) ⟨(0, out), by dsimp only; exact ⟨Nat.zero_le _, by omega⟩⟩ (gc [0, 1, 2, 3]) ?_
    rintro ⟨⟨j, o2⟩, hj, ho2⟩
    dsimp only at hj ho2 ⊢
    unfold Zc
    have hy := fun h : j < l.length => fzY_at l j h
    have hb2 : (o2.length + 1) * 24 ≤ 140737488355328 := by omega
    have F := (And.intro @hy @hb2)
    refine rn F ?_
    repeat' (first
      | with_reducible exact ⟨⟩
      | (refine sB F ?_ ?_ <;> intro hZ))
  all_goals first
    | exact ⟨⟨(j + 1, o2), by dsimp only; omega, by dsimp only; omega⟩, by dsimp only; omega, (gc [0, 1, 2, 3])⟩
    | exact ⟨⟨(j + 1, o2 ++ [⟨(l.getD j Dt0).pg, (l.getD j Dt0).rc, (l.getD j Dt0).last⟩]), by dsimp only; omega, by simp; omega⟩, by dsimp only; omega, by dsimp only; rw [List.length_append]; exact (gc [0, 1, 2, 6])⟩
    | exact ⟨⟨(i + 1, o2), by dsimp only; omega, by dsimp only; omega⟩, by dsimp only; omega, (gc [0, 1, 2, 3])⟩
    | skip
  all_goals skip
end
theorem rcpvalid_w (c : Cp) (h : c.sm) : VCalls prog 179 [.agg c.d] [] (RetS boD fun _ => True) := by
  refine dd Tryz.func179 ?_
  obtain ⟨h1, h2, h3⟩ := h
  have h10 := h1.1
  have c1 := rtvalid_v c.tx (h1.smL (by omega))
  have c2 := fun n => rvdirty_w c.dl (by omega) n
  have c3 := rixvalid_v c.ix (by omega)
  generalize tblB c.tx = b1 at *
  generalize ixB c.ix = b2 at *
  (unfold Tryz.f179; refine rn trivial ?_)
  refine rn F ?_
  repeat' (first
    | with_reducible exact ⟨⟩
    | (refine sG F ?_ ?_ <;> intro hZ)
    | (refine sB F ?_ ?_ <;> intro hZ)
    | refine vp F (c1) ?_
    | (refine vc_S (c2 _) rfl ?_; rintro b3 -; refine rn F ?_)
    | refine vp F (c3) ?_)
  all_goals first
    | exact ⟨rfl, rfl, false, rfl, trivial⟩
    | skip
  all_goals
    refine vloopW (fun s : To c.tx.length => ⟨67, 0, [(3, .int .i64 s.i), (1, .ptr 0 0)], [⟨219, true, c.d⟩]⟩) (fun s => c.tx.length - s.i) ⟨0, Nat.zero_le _⟩ (gc [0]) ?_
    rintro ⟨i, hi⟩
    dsimp only
    have hg := fun h : i < c.tx.length => fzT_g c.tx i h
    have F := @hg
    refine rn F ?_
    repeat' (first
      | with_reducible exact ⟨⟩
      | (refine sB F ?_ ?_ <;> intro hZ)
      | (refine vspine (id := 6) [0, 1, 2, 3, 4, 5, 6, 7, 8] [] (by kernel_rfl) (by kernel_rfl) ?_; refine rn F ?_))
  all_goals first
    | exact ⟨rfl, rfl, false, rfl, trivial⟩
    | exact ⟨rfl, rfl, true, rfl, trivial⟩
    | exact ⟨⟨i + 1, by omega⟩, by dsimp only; omega, (gc [0])⟩
    | skip
theorem rcpenc_w (c : Cp) (h : c.sm) : VCalls prog 145 [.agg c.d] [] (RetS siD fun a => a.1.length ≤ 300000000) := by
  refine dd Tryz.func145 ?_
  have c1 := rcpvalid_w c h
  obtain ⟨h1, h2, h3⟩ := h
  have c2 := rtenc_w c.tx h1
  have c3 := rixenc_w c.ix h3
  have c4 := rput2 [] (by simp)
  (unfold Tryz.f145; refine rn trivial ?_)
  refine rn F ?_
  repeat' (first
    | with_reducible exact ⟨⟩
    | (refine sB F ?_ ?_ <;> intro hZ)
    | (refine vc_S (c1) rfl ?_; rintro b -; refine rn F ?_)
    | (refine vc_S (c2) rfl ?_; rintro ⟨t, e⟩ ht; refine rn F ?_)
    | (refine vc_S (c4 _) rfl ?_; rintro u1 hu1; refine rn F ?_)
    | (refine vc_S (rput4 u1 (by simp at hu1; omega) c.nx) rfl ?_; rintro u2 hu2; refine rn F ?_)
    | (refine vc_S (rput4 u2 (by simp at hu1; omega) t.length) rfl ?_; rintro u3 hu3; refine rn F ?_))
  all_goals first
    | exact ⟨rfl, rfl, ([], 24), rfl, by simp⟩
    | skip
  dsimp only at ht
  simp only [List.length_nil] at hu1
  have hadd := str_add (a := u3) (b := t) (by omega)
  have hw : (u3 ++ t).length = u3.length + t.length := List.length_append
  have F := @hadd
  refine rn F ?_
  repeat' (first
    | with_reducible exact ⟨⟩
    | (refine vc_S (rput1 (u3 ++ t) (by rw [hw]; omega) c.dl.length) rfl ?_; rintro u4 hu4; refine rn F ?_))
  rw [hw] at hu4
  refine vloopW (fun r : {r : Nat × List UInt8 // r.1 ≤ c.dl.length ∧ r.2.length = u4.length + 17 * r.1} => ⟨77, 0, [(7, .int .i64 r.1.1), (6, .pv (.str r.1.2)), (1, .ptr 0 0)], [⟨219, true, c.d⟩]⟩) (fun r => c.dl.length - r.1.1) ⟨(0, u4), by simp⟩ (gc [0]) ?_
  rintro ⟨⟨i, v⟩, hi, hv⟩
  dsimp only at hi hv ⊢
  have hy := fun h : i < c.dl.length => fzY_at c.dl i h
  generalize c.dl.getD i Dt0 = x at *
  have F := @hy
  refine rn F ?_
  repeat' (first
    | with_reducible exact ⟨⟩
    | (refine sB F ?_ ?_ <;> intro hZ)
    | (refine vc_S (rput1 v (by omega) x.pg) rfl ?_; rintro v1 hv1; refine rn F ?_)
    | (refine vc_S (rput8 v1 (by omega) x.rc) rfl ?_; rintro v2 hv2; refine rn F ?_)
    | (refine vc_S (rput8 v2 (by omega) x.last) rfl ?_; rintro v3 hv3; refine rn F ?_)
    | (refine vc_S (c3) rfl ?_; rintro ⟨w, e2⟩ hw2; refine rn F ?_))
  all_goals first
    | exact ⟨⟨(i + 1, v3), by dsimp only; omega, by dsimp only; omega⟩, by dsimp only; omega, (gc [0])⟩
    | skip
  dsimp only at hw2
  have hadd2 := str_add (a := v) (b := w) (by omega)
  have F := @hadd2
  refine rn F ?_
  exact ⟨rfl, rfl, (v ++ w, 0), rfl, by dsimp only; rw [List.length_append]; omega⟩
theorem forceS_ev {x : Lg} {n : Int} (h : (forceS x n).2 = 0) : Ev x (forceS x n).1 := by
  unfold forceS at h ⊢
  split at h
  · simp at h
  rename_i q1
  split at h
  · simp at h
  rename_i q2
  rw [if_neg q1, if_neg q2]
  refine ⟨rfl, List.prefix_rfl, fun hv => ?_⟩
  have hd := lgB_hd hv
  unfold lgB at hv ⊢
  simp only [Bool.and_eq_true, decide_eq_true_eq] at hv ⊢
  refine ⟨?_, hv.2⟩
  simp only [Lg.hd, Lg.end_] at hd q2 ⊢
  split <;> omega
theorem forceS_len (x : Lg) (n : Int) (h : x.es.length ≤ 4096) : (forceS x n).1.es.length ≤ 4096 := by
  unfold forceS
  repeat' split
  all_goals first | exact Nat.zero_le _ | exact h
theorem addQ_force {k k1 : Kn} {e : E} {n1 e1 : Int} (hq : addQ k e (k1, n1, e1)) (h : e1 = 0) : (forceS k1.lg n1).2 = 0 := by
  obtain ⟨e', ⟨_, _, _, hl, _⟩, hk, hn, hv⟩ := hq.2 h
  dsimp only at hk hn hv
  subst hk
  unfold forceS
  rw [if_neg (by rw [hv]; decide), if_neg]
  simp only [Kn.add, Lg.end_, List.length_append, List.length_cons, List.length_nil] at *
  omega
def takeQ (k : Kn) (a : Kn × Int × Int) : Prop := a.1.sm ∧ (a.2.2 = 0 → EvK 1 k a.1)
theorem rtake_w (k : Kn) (h : k.sm) : VCalls prog 126 [.agg k.d] [] (RetS kie (takeQ k)) := by
  refine dk Tryz.func126 ?_
  have c1 := rcpof_w k h
  have c2 := fun c hc => rcpenc_w c hc
  have c3 := fun t => rkadd_w k h ⟨0, 6, 0, 0, 0, 0, Ch0, t⟩
  have e0 : ∀ n e, e ≠ 0 → takeQ k (Kn0, n, e) := fun n e h => ⟨Kn0_sm, fun h2 => absurd h2 h⟩
  (unfold Tryz.f126; refine rn trivial ?_)
  refine rn F ?_
  repeat' (first
    | with_reducible exact ⟨⟩
    | (refine sB F ?_ ?_ <;> intro hZ)
    | (refine vc_S (c1) rfl ?_; rintro ⟨c, e⟩ hc; refine rn F ?_)
    | (refine vc_S (c2 c hc) rfl ?_; rintro ⟨t, e2⟩ ht; refine rn F ?_)
    | (refine vc_S (c3 _) rfl ?_; rintro ⟨k1, n1, e1⟩ hq; refine rn F ?_)
    | refine vp F (rforce_v k1.lg (Nat.le_trans hq.1.1 (by decide)) n1) ?_)
  all_goals first
    | exact ⟨rfl, rfl, (Kn0, 0, 21), rfl, e0 _ _ (by decide)⟩
    | exact ⟨rfl, rfl, (Kn0, 0, e), rfl, e0 _ _ (by assumption)⟩
    | exact ⟨rfl, rfl, (Kn0, 0, e1), rfl, e0 _ _ (by assumption)⟩
    | skip
  have he1 : e1 = 0 := by omega
  obtain ⟨q1, q2, q3, q4, q5, q6, q7⟩ := addQ_ev hq he1
  obtain ⟨r1, r2, r3, r4, r5, r6⟩ := hq.1
  have hf := forceS_ev (addQ_force hq he1)
  have hfe : (forceS k1.lg n1).1.es = k1.lg.es := by
    have := addQ_force hq he1
    unfold forceS at this ⊢
    split at this
    · simp at this
    rename_i w1
    split at this
    · simp at this
    rename_i w2
    rw [if_neg w1, if_neg w2]
  have qp := (addQ_phi hq he1).2.2.1 (by simp) (by simp)
  exact ⟨rfl, rfl, (⟨k1.pg, k1.nx, (forceS k1.lg n1).1, k1.pl, k1.lk, k1.tx, k1.ix, k1.la⟩, n1, 0), rfl, ⟨forceS_len _ _ r1, r2, r3, r4, r5, r6⟩, fun _ => .of (q1.trans hf) q7 (by unfold Kn.phi at qp ⊢; dsimp only; rw [hfe]; exact qp)⟩
theorem rscheck_w (s : Sv) (hs : s.sm) : VCalls prog 115 [.agg s.d] [] (RetS siiD fun a => a.1.sm ∧ (a.2.2 = 0 → EvK 1 s.k a.1.k)) := by
  refine dk Tryz.func115 ?_
  have c1 := rtake_w s.k hs.1
  (unfold Tryz.f115; refine rn trivial ?_)
  refine rn F ?_
  repeat' (first
    | with_reducible exact ⟨⟩
    | (refine sB F ?_ ?_ <;> intro hZ)
    | (refine vc_S (c1) rfl ?_; rintro ⟨k1, n1, e1⟩ hq; refine rn F ?_))
  all_goals first
    | exact ⟨rfl, rfl, (Sv0, 0, e1), rfl, Sv0_sm, fun h => absurd h (by assumption)⟩
    | exact ⟨rfl, rfl, (⟨k1, s.v⟩, n1, 0), rfl, ⟨hq.1, hs.2⟩, fun _ => hq.2 (by dsimp only; omega)⟩
    | skip
section
attribute [local go_sem] iteLe
structure Rd where
  tx : Int
  pg : Int
  sl : Int
  at_ : Int
  cell : Ce
def encO : Enc Rd := ⟨6, fun r => [.lit (.int .i64 r.tx), .lit (.int .i64 r.pg), .lit (.int .i64 r.sl), .lit (.int .i64 r.at_), .lit (.bool r.cell.set), .str r.cell.data], by decide, fun _ => rfl⟩
theorem lenO (l : List Rd) : (cells encO l).length = l.length * 6 := cells_len encO l
theorem allO (l : List Rd) (n : Nat) (h : l.length * 6 ≤ n) : (cells encO l).take n = cells encO l := by rw [List.take_of_length_le]; rw [lenO]; exact h
theorem frzO {n : Nat} {hp : Heap} {len : Nat} {l : List Rd} (h : l.length = len) : frzC n hp 0 6 len (some (cells encO l)) = some (.sl (fz encO l)) := frzC_cells encO h
theorem app_O (l : List Rd) (a b c d : Int) (x : Bool) (s : List UInt8) : cells encO l ++ [.pv (.lit (.int .i64 a)), .pv (.lit (.int .i64 b)), .pv (.lit (.int .i64 c)), .pv (.lit (.int .i64 d)), .pv (.lit (.bool x)), .pv (.str s)] = cells encO (l ++ [⟨a, b, c, d, ⟨x, s⟩⟩]) := by rw [cells_app]; rfl
attribute [go_sem] lenO allO frzO app_O
structure Sp where
  kind : Int
  tx : Int
  pg : Int
  torn : Int
  cut : Int
  a : Ac
@[go_sem] def Sp.d (t : Sp) : List DV := [.int .i64 t.kind, .int .i64 t.tx, .int .i64 t.pg, .int .i64 t.torn, .int .i64 t.cut, .int .i64 t.a.kind, .int .i64 t.a.pg, .int .i64 t.a.sl, .pv (.str t.a.data)]
structure Sc where
  s : Sv
  tx : List Int
  rd : List Rd
  dead : Bool
def Sc.sm (c : Sc) (n : Nat) : Prop := c.s.sm ∧ c.tx.length ≤ n ∧ c.rd.length ≤ n
@[go_sem] def scB (c : Sc) (i j : Nat) : Blk := ⟨154, true, c.s.d ++ [.own i 1 0 c.tx.length, .own j 6 0 c.rd.length, .bool c.dead]⟩
@[go_sem] def scT (l : List Int) : Blk := ⟨3, true, cells encI l⟩
@[go_sem] def scR (l : List Rd) : Blk := ⟨185, true, cells encO l⟩
@[go_sem] def deadI : Blk := ⟨3, false, []⟩
@[go_sem] def deadO : Blk := ⟨185, false, []⟩
def ScEnd {α : Type} (f : α → DV) (Q : Nat → Sc → α → Prop) : DV → Heap → Prop := fun r h' => ∃ c a B, r = f a ∧ (f a).nums (fun _ => false) = true ∧ ((Q 0 c a ∧ h' = scB c 1 2 :: scT c.tx :: scR c.rd :: [B]) ∨ (Q 1 c a ∧ h' = scB c 3 2 :: deadI :: scR c.rd :: scT c.tx :: [B]) ∨ (Q 2 c a ∧ h' = scB c 1 3 :: scT c.tx :: deadO :: scR c.rd :: [B]))
theorem ScEnd.mono {α : Type} {f : α → DV} {Q Q' : Nat → Sc → α → Prop} (h : ∀ n c a, Q n c a → Q' n c a) : ∀ r h', ScEnd f Q r h' → ScEnd f Q' r h'
  | _, _, ⟨c, a, B, e1, e2, .inl ⟨q, e⟩⟩ => ⟨c, a, B, e1, e2, .inl ⟨h _ _ _ q, e⟩⟩
  | _, _, ⟨c, a, B, e1, e2, .inr (.inl ⟨q, e⟩)⟩ => ⟨c, a, B, e1, e2, .inr (.inl ⟨h _ _ _ q, e⟩)⟩
  | _, _, ⟨c, a, B, e1, e2, .inr (.inr ⟨q, e⟩)⟩ => ⟨c, a, B, e1, e2, .inr (.inr ⟨h _ _ _ q, e⟩)⟩
theorem vc_sc {α : Type} {f : α → DV} {Q : Nat → Sc → α → Prop} {P : Program} {g : FuncId} {args args0 : List DV} {hp : Heap} {K : DV → Heap → Prop} {c : Sc} (k0 k1 k2 : Nat) (cc : VCalls P g args0 [scB c 1 2, scT c.tx, scR c.rd] (ScEnd f Q)) (hk0 : hp[k0]? = some (scB c k1 k2)) (hk1 : hp[k1]? = some (scT c.tx)) (hk2 : hp[k2]? = some (scR c.rd)) (n01 : k0 ≠ k1) (n02 : k0 ≠ k2) (n12 : k1 ≠ k2)
    (ha0 : args0 = args.map (DV.ren fun j => [k0, k1, k2].idxOf j)) (ha : DV.nums.go [k0, k1, k2].contains args = true)
    (hN : ∀ c a, Q 0 c a → ∀ B, K (f a) (((hp.set k0 (scB c k1 k2)).set k1 (scT c.tx)).set k2 (scR c.rd) ++ [B]))
    (hT : ∀ c a, Q 1 c a → ∀ B, K (f a) (((hp.set k0 (scB c hp.length k2)).set k1 deadI).set k2 (scR c.rd) ++ scT c.tx :: [B]))
    (hR : ∀ c a, Q 2 c a → ∀ B, K (f a) (((hp.set k0 (scB c k1 hp.length)).set k1 (scT c.tx)).set k2 deadO ++ scR c.rd :: [B])) : VCalls P g args hp K := by
  have l0 : k0 < hp.length := (List.getElem?_eq_some_iff.1 hk0).1
  have l1 : k1 < hp.length := (List.getElem?_eq_some_iff.1 hk1).1
  have l2 : k2 < hp.length := (List.getElem?_eq_some_iff.1 hk2).1
  have q1 : (k0 == k1) = false := by simp [n01]
  have q2 : (k0 == k2) = false := by simp [n02]
  have q3 : (k1 == k2) = false := by simp [n12]
  have rt : ∀ (σ : Nat → Nat) l, renB σ (scT l) = scT l := fun σ l => renB_plain (cells_nums _ _ _)
  have rr : ∀ (σ : Nat → Nat) l, renB σ (scR l) = scR l := fun σ l => renB_plain (cells_nums _ _ _)
  have rs : ∀ (σ : Nat → Nat) (c : Sc) i j, renB σ (scB c i j) = scB c (σ i) (σ j) := fun σ c i j => rfl
  have i0 : [k0, k1, k2].idxOf k0 = 0 := by simp
  have i1 : [k0, k1, k2].idxOf k1 = 1 := by simp [List.idxOf_cons, q1]
  have i2 : [k0, k1, k2].idxOf k2 = 2 := by simp [List.idxOf_cons, q2, q3]
  refine (VCalls.frame [k0, k1, k2] (by simp [n01, n02, n12]) ?_ ?_ cc ha0 ha).mono ?_
  · simp only [lentTo, List.map_cons, List.map_nil, hk0, hk1, hk2, Option.map_some, allSome, rt, rr, rs, i1, i2]
  · unfold lentOk
    rw [List.all_eq_true]
    intro k hk
    simp only [List.mem_cons, List.not_mem_nil, or_false] at hk
    rcases hk with rfl | rfl | rfl
    · rw [hk0]
      simp [scB, Sv.d, DV.nums, DV.nums.go]
    · rw [hk1]
      dsimp only
      rw [show (scT c.tx).cells = cells encI c.tx from rfl, nums_mono_go _ _ (cells_nums _ _ _)]; simp
    · rw [hk2]
      dsimp only
      rw [show (scR c.rd).cells = cells encO c.rd from rfl, nums_mono_go _ _ (cells_nums _ _ _)]; simp
  · rintro r h2 ⟨r0, h', ⟨c1, a, B, rfl, hn, e⟩, -, rfl, rfl⟩
    rw [ren_id _ _ hn]
    have b1 : back [k0, k1, k2] hp.length 1 = k1 := rfl
    have b2 : back [k0, k1, k2] hp.length 2 = k2 := rfl
    have b3 : back [k0, k1, k2] hp.length 3 = hp.length := rfl
    have rI : ∀ (σ : Nat → Nat), renB σ deadI = deadI := fun σ => rfl
    have rO : ∀ (σ : Nat → Nat), renB σ deadO = deadO := fun σ => rfl
    rcases e with ⟨q, rfl⟩ | ⟨q, rfl⟩ | ⟨q, rfl⟩ <;> rw [behind_three l0 l1 l2 n01 n02 n12]
    · rw [rs, rt, rr, b1, b2]; exact hN c1 a q _
    · rw [rs, rI, rr, b2, b3, List.map_cons, rt]; exact hT c1 a q _
    · rw [rs, rt, rO, b1, b3, List.map_cons, rr]; exact hR c1 a q _
def resR (e : Int) : Rs := if e = 0 then ⟨1, 0, 0, Ce0, 0⟩ else failR e
theorem rresult_v (e : Int) : VCalls prog 116 [.int .i64 e] [] (Ret (.agg (resR e).d)) := by
  refine dd Tryz.func116 ?_
  have c1 := failed_v e
  (unfold Tryz.f116; refine rn trivial ?_)
  unfold resR
  refine rn F ?_
  repeat' (first
    | with_reducible exact ⟨⟩
    | (refine sB F ?_ ?_ <;> intro hZ)
    | refine vp F (c1) ?_)
  all_goals first
    | (rw [if_pos (by assumption)]; first | done | rfl)
    | (rw [if_neg (by assumption)]; first | done | rfl)
@[go_sem] def rsD (r : Rs) : DV := .agg r.d
theorem rkeep_w (c : Sc) (s : Sv) (e : Int) : VCalls prog 112 [.ptr 0 0, .agg s.d, .int .i64 e] [scB c 1 2, scT c.tx, scR c.rd] (ScEnd rsD fun n c' r => n = 0 ∧ c' = ⟨if e = 0 then s else c.s, c.tx, c.rd, c.dead⟩ ∧ r = resR e) := by
  refine vcalls_keepg (fn := Tryz.f112) Tryz.func112 rfl (by kernel_rfl) (by simp [Tryz.f112]) ?_
  have c1 := rresult_v e
  (unfold Tryz.f112; refine rn trivial ?_)
  refine rn F ?_
  repeat' (first
    | with_reducible exact ⟨⟩
    | (refine sB F ?_ ?_ <;> intro hZ)
    | refine vp F (c1) ?_)
  · exact vpostG_gc ⟨15, 3, [(6, .ptr 3 0)], [scB ⟨s, c.tx, c.rd, c.dead⟩ 1 2, scT c.tx, scR c.rd, ⟨156, true, (resR e).d⟩]⟩ (gc [0, 1, 2, 4]) ⟨⟨s, c.tx, c.rd, c.dead⟩, resR e, _, rfl, rfl, .inl ⟨⟨rfl, by rw [if_pos (by assumption)], rfl⟩, rfl⟩⟩
  · exact vpostG_gc ⟨15, 3, [(6, .ptr 3 0)], [scB c 1 2, scT c.tx, scR c.rd, ⟨156, true, (resR e).d⟩]⟩ (gc [0, 1, 2, 4]) ⟨c, resR e, _, rfl, rfl, .inl ⟨⟨rfl, by rw [if_neg (by assumption)], rfl⟩, rfl⟩⟩
end
section
attribute [local go_sem] iteLe
def scQ (c : Sc) (n m : Nat) (c' : Sc) (_ : Rs) : Prop := m ≠ 1 ∧ c'.sm n ∧ c'.dead = c.dead ∧ EvK 4 c.s.k c'.s.k
theorem scQ_same (c : Sc) (n : Nat) (hc : c.sm n) (r : Rs) : scQ c (n + 1) 0 c r := ⟨by decide, ⟨hc.1, Nat.le_succ_of_le hc.2.1, Nat.le_succ_of_le hc.2.2⟩, rfl, EvK.refl _ _⟩
theorem ract_w (c : Sc) (n : Nat) (hn : n ≤ 2000) (hc : c.sm n) (t : Sp) : VCalls prog 113 [.ptr 0 0, .agg t.d] [scB c 1 2, scT c.tx, scR c.rd] (ScEnd rsD (scQ c (n + 1))) := by
  refine vcalls_keepg (fn := Tryz.f113) Tryz.func113 rfl (by kernel_rfl) (by simp [Tryz.f113]) ?_
  have c1 := failed_v 16
  have hq0 := scQ_same c n hc
  have h1 := hc.2.1
  have h2 := hc.2.2
  by_cases h0 : ∃ i : Nat, i < c.tx.length ∧ t.tx = i + 1
  rotate_left
  · have h3 : t.tx < 1 ∨ c.tx.length < t.tx := by
      by_cases ha : t.tx < 1
      · exact .inl ha
      · by_cases hb : c.tx.length < t.tx
        · exact .inr hb
        · exact absurd ⟨(t.tx - 1).toNat, by omega, by omega⟩ h0
    (unfold Tryz.f113; refine rn trivial ?_)
    refine rn F ?_
    repeat' (first
      | with_reducible exact ⟨⟩
      | (refine sG F ?_ ?_ <;> intro hZ)
      | refine vp F (c1) ?_
      | (refine vspine (id := 1) [0, 1, 2, 3, 4, 5, 6, 7, 8, 9, 10, 11, 12, 13, 14, 15, 16, 17, 18, 19, 20, 21, 22, 23, 24] [] (by kernel_rfl) (by kernel_rfl) ?_; refine rn F ?_))
    all_goals first
      | (exfalso; omega)
      | exact vpostG_gc ⟨95, 3, [(4, .ptr 3 0)], [scB c 1 2, scT (Sc.tx c), scR (Sc.rd c), ⟨156, true, Rs.d (failR 16)⟩]⟩ (gc [0, 1, 2, 4]) ⟨c, failR 16, _, rfl, rfl, .inl ⟨hq0 _, rfl⟩⟩
      | skip
  obtain ⟨i, hi, ht⟩ := h0
  have hg := cellsI_get c.tx i hi
  have d1 := rido_w c.s hc.1 (c.tx.getD i 0) t.a
  have e1 : (↑i + 1 - 1 : Int) = ↑i := by omega
  have hlt : (i < c.tx.length) = True := eq_true hi
  (unfold Tryz.f113; refine rn trivial ?_)
  simp only [ht]
  have F := (And.intro @hg (And.intro @e1 @hlt))
  refine rn F ?_
  repeat' (first
    | with_reducible exact ⟨⟩
    | (refine sG F ?_ ?_ <;> intro hZ)
    | (refine sB F ?_ ?_ <;> intro hZ)
    | refine vp F (c1) ?_
    | (refine vc_S (d1) rfl ?_; rintro ⟨s2, r2⟩ hq; refine rn F ?_)
    | refine vp F (rlLast_v s2.k.lg (Nat.le_trans hq.1.1.1 (by decide))) ?_
    | (refine vspine (id := 1) [0, 1, 2, 3, 4, 5, 6, 7, 8, 9, 10, 11, 12, 13, 14, 15, 16, 17, 18, 19, 20, 21, 22, 23, 24] [] (by kernel_rfl) (by kernel_rfl) ?_; refine rn F ?_)
    | (refine vspine (id := 3) [0, 1, 2, 3, 4, 5, 6, 7, 8] [⟨[], [], 9, [], []⟩] (by kernel_rfl) (by kernel_rfl) ?_; refine rn F ?_)
    | (refine vspine (id := 4) [0, 1, 2, 3, 4, 5, 6] [⟨[11, 12], [], 7, [0, 1, 2, 5], [8, 9, 10]⟩, ⟨[11, 12], [11], 13, [10], []⟩, ⟨[12], [12], 14, [], []⟩] (by kernel_rfl) (by kernel_rfl) ?_; refine rn F ?_)
    | (refine vspine (id := 9) [0, 1, 2, 3, 4, 5, 6, 7, 8, 9, 10, 11, 12, 13, 14, 16, 17] [⟨[], [], 15, [0, 1, 2, 3, 4, 5, 6, 7, 8, 9, 10, 11, 12, 13, 16, 17], [18]⟩, ⟨[19], [19], 20, [0, 1, 2, 3, 5, 6, 7, 8, 9, 10, 11, 12, 13, 14, 16, 17, 18], [21, 22]⟩, ⟨[], [], 23, [21], []⟩] (by kernel_rfl) (by kernel_rfl) ?_; refine rn F ?_))
  all_goals first
    | exact vpostG_gc ⟨95, 3, [(4, .ptr 3 0)], [scB c 1 2, scT (Sc.tx c), scR (Sc.rd c), ⟨156, true, Rs.d (failR 16)⟩]⟩ (gc [0, 1, 2, 4]) ⟨c, failR 16, _, rfl, rfl, .inl ⟨hq0 _, rfl⟩⟩
    | exact vpostG_gc ⟨95, 3, [(4, .ptr 3 0)], [scB c 1 2, scT (Sc.tx c), scR (Sc.rd c), ⟨156, true, Rs.d (r2)⟩]⟩ (gc [0, 1, 2, 4]) ⟨c, r2, _, rfl, rfl, .inl ⟨hq0 _, rfl⟩⟩
    | exact vpostG_gc ⟨95, 3, [(4, .ptr 3 0)], [scB ⟨s2, c.tx, c.rd, c.dead⟩ 1 2, scT (Sc.tx ⟨s2, c.tx, c.rd, c.dead⟩), scR (Sc.rd ⟨s2, c.tx, c.rd, c.dead⟩), ⟨156, true, Rs.d (r2)⟩]⟩ (gc [0, 1, 2, 4]) ⟨⟨s2, c.tx, c.rd, c.dead⟩, r2, _, rfl, rfl, .inl ⟨⟨by decide, ⟨hq.1, by dsimp only; omega, by dsimp only; omega⟩, rfl, hq.2.1⟩, rfl⟩⟩
    | skip
  have hl : (c.rd ++ [(⟨c.tx.getD i 0, t.a.pg, t.a.sl, lastS s2.k.lg, r2.cell⟩ : Rd)]).length = c.rd.length + 1 := by simp
  generalize hr : c.rd ++ [(⟨c.tx.getD i 0, t.a.pg, t.a.sl, lastS s2.k.lg, r2.cell⟩ : Rd)] = rd at *
  rw [← hl]
  exact vpostG_gc ⟨95, 3, [(4, .ptr 4 0)], [scB ⟨s2, c.tx, rd, c.dead⟩ 1 3, scT c.tx, deadO, scR rd, ⟨156, true, r2.d⟩]⟩ (gc [0, 1, 2, 8, 4]) ⟨⟨s2, c.tx, rd, c.dead⟩, r2, _, rfl, rfl, .inr (.inr ⟨⟨by decide, ⟨hq.1, by dsimp only; omega, by dsimp only; omega⟩, rfl, hq.2.1⟩, rfl⟩)⟩
end
section
attribute [local go_sem] iteLe
def scI (c : Sc) (n _ : Nat) (c' : Sc) (_ : Rs) : Prop := c'.sm n ∧ EvK 4 c.s.k c'.s.k
theorem scI_same (c : Sc) (n : Nat) (hc : c.sm n) (r : Rs) : scI c (n + 1) 0 c r := ⟨⟨hc.1, Nat.le_succ_of_le hc.2.1, Nat.le_succ_of_le hc.2.2⟩, EvK.refl _ _⟩
abbrev StepC (c : Sc) (n : Nat) (t : Sp) : Prop := VCalls prog 102 [.ptr 0 0, .agg t.d] [scB c 1 2, scT c.tx, scR c.rd] (ScEnd rsD (scI c (n + 1)))
theorem keepS {s s2 : Sv} {e : Int} {d : Nat} (hs : s.sm) (hq : s2.sm ∧ (e = 0 → EvK d s.k s2.k)) (hd : d ≤ 4 := by decide) : (if e = 0 then s2 else s).sm ∧ EvK 4 s.k (if e = 0 then s2 else s).k := by
  split
  · rename_i h; exact ⟨hq.1, EvK.mono (hq.2 h) hd⟩
  · exact ⟨hs, EvK.refl _ _⟩
theorem forceS_es {x : Lg} {n : Int} (h : (forceS x n).2 = 0) : (forceS x n).1.es = x.es := by
  unfold forceS at h ⊢
  split at h
  · simp at h
  rename_i w1
  split at h
  · simp at h
  rename_i w2
  rw [if_neg w1, if_neg w2]
theorem EvK.forced {k : Kn} {n : Int} (h : (forceS k.lg n).2 = 0) : EvK 4 k ⟨k.pg, k.nx, (forceS k.lg n).1, k.pl, k.lk, k.tx, k.ix, k.la⟩ := .of (forceS_ev h) rfl (by unfold Kn.phi; dsimp only; rw [forceS_es h]; omega)
theorem rstep3_w (c : Sc) (n : Nat) (hn : n ≤ 2000) (hc : c.sm n) (t : Sp) (ht : t.kind = 3) : StepC c n t := by
  refine vcalls_keepg (fn := Tryz.f102) Tryz.func102 rfl (by kernel_rfl) (by simp [Tryz.f102]) ?_
  obtain ⟨k, tx, pg, torn, cut, a⟩ := t
  dsimp only at ht
  subst ht
  have c1 := rsflush_w c.s hc.1 pg
  (unfold Tryz.f102; refine rn trivial ?_)
  refine rn F ?_
  repeat' (first
    | with_reducible exact ⟨⟩
    | (refine vc_S (c1) rfl ?_; rintro ⟨s2, e2⟩ hq; refine rn F ?_)
    | (refine vspineT (id := 12) [[], [], [1], [1, 2], [1, 2, 3], [], [5], [1, 2, 3, 4, 5, 6], [1, 2, 3, 4, 5, 6, 7], [1, 2, 3, 4, 5, 6, 7], [0, 1, 2, 3, 4, 5, 6, 7, 8, 9], [0, 1, 2, 3, 4, 5, 6, 7, 8, 9, 10]] [0, 1, 2, 3, 4, 5, 6] [⟨[], [], 7, [0], [8, 9]⟩, ⟨[], [], 10, [], []⟩, ⟨[], [], 11, [], []⟩] (by kernel_rfl) (by kernel_rfl) (by kernel_rfl) ?_; refine rn F ?_))
  refine vc_sc (c := c) 0 1 2 (rkeep_w c s2 e2) rfl rfl rfl (by decide) (by decide) (by decide) rfl rfl ?_ (fun _ _ h => absurd h.1 (by decide)) (fun _ _ h => absurd h.1 (by decide))
  rintro _ _ ⟨-, rfl, rfl⟩ B
  obtain ⟨k1, k2⟩ := keepS hc.1 hq
  generalize (if e2 = 0 then s2 else c.s) = s' at *
  refine rn trivial ?_
  exact vpostG_gc ⟨132, 3, [(4, .ptr 3 0)], [scB ⟨s', c.tx, c.rd, c.dead⟩ 1 2, scT (Sc.tx ⟨s', c.tx, c.rd, c.dead⟩), scR (Sc.rd ⟨s', c.tx, c.rd, c.dead⟩), ⟨156, true, Rs.d (resR e2)⟩]⟩ (gc [0, 1, 2, 4]) ⟨⟨s', c.tx, c.rd, c.dead⟩, resR e2, _, rfl, rfl, .inl ⟨⟨⟨k1, Nat.le_succ_of_le hc.2.1, Nat.le_succ_of_le hc.2.2⟩, k2⟩, rfl⟩⟩
theorem rstep4_w (c : Sc) (n : Nat) (hn : n ≤ 2000) (hc : c.sm n) (t : Sp) (ht : t.kind = 4) : StepC c n t := by
  refine vcalls_keepg (fn := Tryz.f102) Tryz.func102 rfl (by kernel_rfl) (by simp [Tryz.f102]) ?_
  obtain ⟨k, tx, pg, torn, cut, a⟩ := t
  dsimp only at ht
  subst ht
  have c1 := rscheck_w c.s hc.1
  (unfold Tryz.f102; refine rn trivial ?_)
  refine rn F ?_
  repeat' (first
    | with_reducible exact ⟨⟩
    | (refine vc_S (c1) rfl ?_; rintro ⟨s2, n2, e2⟩ hq; refine rn F ?_))
  refine vc_sc (c := c) 0 1 2 (rkeep_w c s2 e2) rfl rfl rfl (by decide) (by decide) (by decide) rfl rfl ?_ (fun _ _ h => absurd h.1 (by decide)) (fun _ _ h => absurd h.1 (by decide))
  rintro _ _ ⟨-, rfl, rfl⟩ B
  obtain ⟨k1, k2⟩ := keepS hc.1 hq
  generalize (if e2 = 0 then s2 else c.s) = s' at *
  refine rn trivial ?_
  exact vpostG_gc ⟨132, 3, [(4, .ptr 3 0)], [scB ⟨s', c.tx, c.rd, c.dead⟩ 1 2, scT (Sc.tx ⟨s', c.tx, c.rd, c.dead⟩), scR (Sc.rd ⟨s', c.tx, c.rd, c.dead⟩), ⟨156, true, Rs.d (resR e2)⟩]⟩ (gc [0, 1, 2, 4]) ⟨⟨s', c.tx, c.rd, c.dead⟩, resR e2, _, rfl, rfl, .inl ⟨⟨⟨k1, Nat.le_succ_of_le hc.2.1, Nat.le_succ_of_le hc.2.2⟩, k2⟩, rfl⟩⟩
theorem rstep7_w (c : Sc) (n : Nat) (hn : n ≤ 2000) (hc : c.sm n) (t : Sp) (ht : t.kind = 7) : StepC c n t := by
  refine vcalls_keepg (fn := Tryz.f102) Tryz.func102 rfl (by kernel_rfl) (by simp [Tryz.f102]) ?_
  obtain ⟨k, tx, pg, torn, cut, a⟩ := t
  dsimp only at ht
  subst ht
  have c1 := rwork_w c.s hc.1
  (unfold Tryz.f102; refine rn trivial ?_)
  refine rn F ?_
  repeat' (first
    | with_reducible exact ⟨⟩
    | (refine vc_S (c1) rfl ?_; rintro ⟨s2, n2, e2⟩ hq; refine rn F ?_))
  refine vc_sc (c := c) 0 1 2 (rkeep_w c s2 e2) rfl rfl rfl (by decide) (by decide) (by decide) rfl rfl ?_ (fun _ _ h => absurd h.1 (by decide)) (fun _ _ h => absurd h.1 (by decide))
  rintro _ _ ⟨-, rfl, rfl⟩ B
  obtain ⟨k1, k2⟩ := keepS hc.1 hq
  generalize (if e2 = 0 then s2 else c.s) = s' at *
  refine rn trivial ?_
  exact vpostG_gc ⟨132, 3, [(4, .ptr 3 0)], [scB ⟨s', c.tx, c.rd, c.dead⟩ 1 2, scT (Sc.tx ⟨s', c.tx, c.rd, c.dead⟩), scR (Sc.rd ⟨s', c.tx, c.rd, c.dead⟩), ⟨156, true, Rs.d (resR e2)⟩]⟩ (gc [0, 1, 2, 4]) ⟨⟨s', c.tx, c.rd, c.dead⟩, resR e2, _, rfl, rfl, .inl ⟨⟨⟨k1, Nat.le_succ_of_le hc.2.1, Nat.le_succ_of_le hc.2.2⟩, k2⟩, rfl⟩⟩
theorem rstep5_w (c : Sc) (n : Nat) (hn : n ≤ 2000) (hc : c.sm n) (t : Sp) (ht : t.kind = 5) : StepC c n t := by
  refine vcalls_keepg (fn := Tryz.f102) Tryz.func102 rfl (by kernel_rfl) (by simp [Tryz.f102]) ?_
  obtain ⟨k, tx, pg, torn, cut, a⟩ := t
  dsimp only at ht
  subst ht
  have c1 := rlLast_v c.s.k.lg (Nat.le_trans hc.1.1.1 (by decide))
  have c2 := rforce_v c.s.k.lg (Nat.le_trans hc.1.1.1 (by decide)) (lastS c.s.k.lg)
  have c3 := fun e => rresult_v e
  (unfold Tryz.f102; refine rn trivial ?_)
  refine rn F ?_
  repeat' (first
    | with_reducible exact ⟨⟩
    | (refine sB F ?_ ?_ <;> intro hZ)
    | refine vp F (c1) ?_
    | refine vp F (c2) ?_
    | refine vp F (c3 _) ?_
    | (refine vspineT (id := 17) [[], [0], [0, 1], [0, 1, 2], [0, 1, 2, 3], [0, 1, 2, 3, 4], [], [6], [6, 7], [6, 7, 8], [6, 7, 8, 9], [6, 7, 8, 9, 10], [6, 7, 8, 9, 10, 11], [0, 1, 2, 3, 4, 5, 6, 7, 8, 9, 10, 11, 12], [0, 1, 2, 3, 4, 5, 6, 7, 8, 9, 10, 11, 12, 13], [0, 1, 2, 3, 4, 5, 6, 7, 8, 9, 10, 11, 12, 13, 14], [0, 1, 2, 3, 4, 5, 6, 7, 8, 9, 10, 11, 12, 13, 14], [], [0, 1, 2, 3, 4, 5, 6, 7, 8, 9, 10, 11, 12, 13, 14, 15, 17], [0, 1, 2, 3, 4, 5, 6, 7, 8, 9, 10, 11, 12, 13, 14, 15, 16, 17, 18]] [0, 1, 2, 3, 4, 5, 6, 7, 8, 9, 10, 11] [⟨[17], [], 12, [0, 1, 2, 3, 4, 5], []⟩, ⟨[17], [], 13, [], [14, 15, 16]⟩, ⟨[17], [17], 18, [16], []⟩, ⟨[], [], 19, [], []⟩] (by kernel_rfl) (by kernel_rfl) (by kernel_rfl) ?_; refine rn F ?_))
  · exact vpostG_gc ⟨132, 3, [(4, .ptr 3 0)], [scB ⟨⟨⟨c.s.k.pg, c.s.k.nx, (forceS c.s.k.lg (lastS c.s.k.lg)).1, c.s.k.pl, c.s.k.lk, c.s.k.tx, c.s.k.ix, c.s.k.la⟩, c.s.v⟩, c.tx, c.rd, c.dead⟩ 1 2, scT (Sc.tx ⟨⟨⟨c.s.k.pg, c.s.k.nx, (forceS c.s.k.lg (lastS c.s.k.lg)).1, c.s.k.pl, c.s.k.lk, c.s.k.tx, c.s.k.ix, c.s.k.la⟩, c.s.v⟩, c.tx, c.rd, c.dead⟩), scR (Sc.rd ⟨⟨⟨c.s.k.pg, c.s.k.nx, (forceS c.s.k.lg (lastS c.s.k.lg)).1, c.s.k.pl, c.s.k.lk, c.s.k.tx, c.s.k.ix, c.s.k.la⟩, c.s.v⟩, c.tx, c.rd, c.dead⟩), ⟨156, true, Rs.d (resR _)⟩]⟩ (gc [0, 1, 2, 4]) ⟨⟨⟨⟨c.s.k.pg, c.s.k.nx, (forceS c.s.k.lg (lastS c.s.k.lg)).1, c.s.k.pl, c.s.k.lk, c.s.k.tx, c.s.k.ix, c.s.k.la⟩, c.s.v⟩, c.tx, c.rd, c.dead⟩, resR _, _, rfl, rfl, .inl ⟨⟨⟨⟨⟨forceS_len _ _ hc.1.1.1, hc.1.1.2⟩, hc.1.2⟩, Nat.le_succ_of_le hc.2.1, Nat.le_succ_of_le hc.2.2⟩, EvK.forced (k := c.s.k) (by assumption)⟩, rfl⟩⟩
  · exact vpostG_gc ⟨132, 3, [(4, .ptr 3 0)], [scB c 1 2, scT (Sc.tx c), scR (Sc.rd c), ⟨156, true, Rs.d (resR _)⟩]⟩ (gc [0, 1, 2, 4]) ⟨c, resR _, _, rfl, rfl, .inl ⟨scI_same c n hc _, rfl⟩⟩
theorem rstep2_w (c : Sc) (n : Nat) (hn : n ≤ 2000) (hc : c.sm n) (t : Sp) (ht : t.kind = 2) : StepC c n t := by
  refine vcalls_keepg (fn := Tryz.f102) Tryz.func102 rfl (by kernel_rfl) (by simp [Tryz.f102]) ?_
  obtain ⟨k, tx, pg, torn, cut, a⟩ := t
  dsimp only at ht
  subst ht
  (unfold Tryz.f102; refine rn trivial ?_)
  refine vc_sc (c := c) 0 1 2 (ract_w c n hn hc ⟨2, tx, pg, torn, cut, a⟩) rfl rfl rfl (by decide) (by decide) (by decide) rfl rfl ?_ (fun _ _ h => absurd rfl h.1) ?_
  · rintro c1 r1 ⟨-, q1, -, q2⟩ B
    refine rn trivial ?_
    exact vpostG_gc ⟨132, 3, [(4, .ptr 3 0)], [scB c1 1 2, scT (Sc.tx c1), scR (Sc.rd c1), ⟨156, true, Rs.d (r1)⟩]⟩ (gc [0, 1, 2, 4]) ⟨c1, r1, _, rfl, rfl, .inl ⟨⟨q1, q2⟩, rfl⟩⟩
  · rintro c1 r1 ⟨-, q1, -, q2⟩ B
    refine rn trivial ?_
    exact vpostG_gc ⟨132, 3, [(4, .ptr 4 0)], [scB c1 1 3, scT c1.tx, deadO, scR c1.rd, ⟨156, true, r1.d⟩]⟩ (gc [0, 1, 2, 5, 4]) ⟨c1, r1, _, rfl, rfl, .inr (.inr ⟨⟨q1, q2⟩, rfl⟩)⟩
theorem rstep1_w (c : Sc) (n : Nat) (hn : n ≤ 2000) (hc : c.sm n) (t : Sp) (ht : t.kind = 1) : StepC c n t := by
  refine vcalls_keepg (fn := Tryz.f102) Tryz.func102 rfl (by kernel_rfl) (by simp [Tryz.f102]) ?_
  obtain ⟨k, tx, pg, torn, cut, a⟩ := t
  dsimp only at ht
  subst ht
  have c1 := rsbegin_w c.s hc.1
  (unfold Tryz.f102; refine rn trivial ?_)
  have hb : (c.tx.length + 1) * 8 ≤ 140737488355328 := by have := hc.2.1; omega
  have F := @hb
  refine rn F ?_
  repeat' (first
    | with_reducible exact ⟨⟩
    | (refine sB F ?_ ?_ <;> intro hZ)
    | (refine vc_S (c1) rfl ?_; rintro ⟨s2, n2, e2⟩ hq; refine rn F ?_))
  rotate_left
  · refine vc_sc (c := c) 0 1 2 (rkeep_w c s2 e2) rfl rfl rfl (by decide) (by decide) (by decide) rfl rfl ?_ (fun _ _ h => absurd h.1 (by decide)) (fun _ _ h => absurd h.1 (by decide))
    rintro _ _ ⟨-, rfl, rfl⟩ B
    obtain ⟨k1, k2⟩ := keepS hc.1 hq
    generalize (if e2 = 0 then s2 else c.s) = s' at *
    refine rn trivial ?_
    exact vpostG_gc ⟨132, 3, [(4, .ptr 3 0)], [scB ⟨s', c.tx, c.rd, c.dead⟩ 1 2, scT (Sc.tx ⟨s', c.tx, c.rd, c.dead⟩), scR (Sc.rd ⟨s', c.tx, c.rd, c.dead⟩), ⟨156, true, Rs.d ({ resR e2 with tx := n2 })⟩]⟩ (gc [0, 1, 2, 4]) ⟨⟨s', c.tx, c.rd, c.dead⟩, { resR e2 with tx := n2 }, _, rfl, rfl, .inl ⟨⟨⟨k1, Nat.le_succ_of_le hc.2.1, Nat.le_succ_of_le hc.2.2⟩, k2⟩, rfl⟩⟩
  have hl : (c.tx ++ [n2]).length = c.tx.length + 1 := by simp
  generalize c.tx ++ [n2] = l at *
  rw [← hl]
  refine vc_sc (c := ⟨c.s, l, c.rd, c.dead⟩) 0 7 2 (rkeep_w ⟨c.s, l, c.rd, c.dead⟩ s2 e2) rfl rfl rfl (by decide) (by decide) (by decide) rfl rfl ?_ (fun _ _ h => absurd h.1 (by decide)) (fun _ _ h => absurd h.1 (by decide))
  rintro _ _ ⟨-, rfl, rfl⟩ B
  obtain ⟨k1, k2⟩ := keepS hc.1 hq
  generalize (if e2 = 0 then s2 else c.s) = s' at *
  have h1 := hc.2.1
  refine rn trivial ?_
  exact vpostG_gc ⟨132, 3, [(4, .ptr 4 0)], [scB ⟨s', l, c.rd, c.dead⟩ 3 2, deadI, scR c.rd, scT l, ⟨156, true, Rs.d { resR e2 with tx := n2 }⟩]⟩ (gc [0, 1, 2, 7, 4]) ⟨⟨s', l, c.rd, c.dead⟩, { resR e2 with tx := n2 }, _, rfl, rfl, .inr (.inl ⟨⟨⟨k1, by dsimp only; omega, Nat.le_succ_of_le hc.2.2⟩, k2⟩, rfl⟩)⟩
end
section
attribute [local go_sem] iteLe
theorem rstepO_w (c : Sc) (n : Nat) (hc : c.sm n) (t : Sp) (h1 : t.kind ≠ 1) (h2 : t.kind ≠ 2) (h3 : t.kind ≠ 3) (h4 : t.kind ≠ 4) (h5 : t.kind ≠ 5) (h6 : t.kind ≠ 6) (h7 : t.kind ≠ 7) : StepC c n t := by
  refine vcalls_keepg (fn := Tryz.f102) Tryz.func102 rfl (by kernel_rfl) (by simp [Tryz.f102]) ?_
  have c1 := failed_v 1
  (unfold Tryz.f102; refine rn (And.intro @h1 (And.intro @h2 (And.intro @h3 (And.intro @h4 (And.intro @h5 (And.intro @h6 @h7)))))) ?_)
  have F := (And.intro @h1 (And.intro @h2 (And.intro @h3 (And.intro @h4 (And.intro @h5 (And.intro @h6 @h7))))))
  refine rn F ?_
  repeat' (first
    | with_reducible exact ⟨⟩
    | refine vp F (c1) ?_)
  exact vpostG_gc ⟨132, 3, [(4, .ptr 3 0)], [scB c 1 2, scT (Sc.tx c), scR (Sc.rd c), ⟨156, true, Rs.d (failR 1)⟩]⟩ (gc [0, 1, 2, 4]) ⟨c, failR 1, _, rfl, rfl, .inl ⟨scI_same c n hc _, rfl⟩⟩
theorem rstepA_w (c : Sc) (n : Nat) (hn : n ≤ 2000) (hc : c.sm n) (t : Sp) (h6 : t.kind ≠ 6) : StepC c n t := by
  by_cases q1 : t.kind = 1
  · exact rstep1_w c n hn hc t q1
  by_cases q2 : t.kind = 2
  · exact rstep2_w c n hn hc t q2
  by_cases q3 : t.kind = 3
  · exact rstep3_w c n hn hc t q3
  by_cases q4 : t.kind = 4
  · exact rstep4_w c n hn hc t q4
  by_cases q5 : t.kind = 5
  · exact rstep5_w c n hn hc t q5
  by_cases q6 : t.kind = 6
  · exact absurd q6 h6
  by_cases q7 : t.kind = 7
  · exact rstep7_w c n hn hc t q7
  exact rstepO_w c n hc t q1 q2 q3 q4 q5 q6 q7
def encV : Enc Sp := ⟨9, fun t => [.lit (.int .i64 t.kind), .lit (.int .i64 t.tx), .lit (.int .i64 t.pg), .lit (.int .i64 t.torn), .lit (.int .i64 t.cut), .lit (.int .i64 t.a.kind), .lit (.int .i64 t.a.pg), .lit (.int .i64 t.a.sl), .str t.a.data], by decide, fun _ => rfl⟩
theorem lenV (l : List Sp) : (cells encV l).length = l.length * 9 := cells_len encV l
theorem allV (l : List Sp) (n : Nat) (h : l.length * 9 ≤ n) : (cells encV l).take n = cells encV l := by rw [List.take_of_length_le]; rw [lenV]; exact h
theorem frzV {n : Nat} {hp : Heap} {len : Nat} {l : List Sp} (h : l.length = len) : frzC n hp 0 9 len (some (cells encV l)) = some (.sl (fz encV l)) := frzC_cells encV h
def Sp0 : Sp := ⟨0, 0, 0, 0, 0, 0, 0, 0, []⟩
theorem fzV_at (l : List Sp) (i : Nat) (h : i < l.length) : (fz encV l)[i]? = some [.lit (.int .i64 (l.getD i Sp0).kind), .lit (.int .i64 (l.getD i Sp0).tx), .lit (.int .i64 (l.getD i Sp0).pg), .lit (.int .i64 (l.getD i Sp0).torn), .lit (.int .i64 (l.getD i Sp0).cut), .lit (.int .i64 (l.getD i Sp0).a.kind), .lit (.int .i64 (l.getD i Sp0).a.pg), .lit (.int .i64 (l.getD i Sp0).a.sl), .str (l.getD i Sp0).a.data] := fz_getD encV l Sp0 i h
attribute [go_sem] lenV allV frzV
def encU2 : Enc Rs := ⟨6, fun r => [.lit (.int .i64 r.st), .lit (.int .i64 r.tx), .lit (.int .i64 r.pg), .lit (.bool r.cell.set), .str r.cell.data, .lit (.int .i64 r.er)], by decide, fun _ => rfl⟩
theorem lenU2 (l : List Rs) : (cells encU2 l).length = l.length * 6 := cells_len encU2 l
theorem allU2 (l : List Rs) (n : Nat) (h : l.length * 6 ≤ n) : (cells encU2 l).take n = cells encU2 l := by rw [List.take_of_length_le]; rw [lenU2]; exact h
theorem frzU2 {n : Nat} {hp : Heap} {len : Nat} {l : List Rs} (h : l.length = len) : frzC n hp 0 6 len (some (cells encU2 l)) = some (.sl (fz encU2 l)) := frzC_cells encU2 h
theorem app_U2 (l : List Rs) (a b c : Int) (x : Bool) (s : List UInt8) (d : Int) : cells encU2 l ++ [.pv (.lit (.int .i64 a)), .pv (.lit (.int .i64 b)), .pv (.lit (.int .i64 c)), .pv (.lit (.bool x)), .pv (.str s), .pv (.lit (.int .i64 d))] = cells encU2 (l ++ [⟨a, b, c, ⟨x, s⟩, d⟩]) := by rw [cells_app]; rfl
attribute [go_sem] lenU2 allU2 frzU2 app_U2
theorem wk_O (l : List Rd) : DV.wk.go (cells encO l) = cells encO l := wk_cells encO l fun a p hp => by
  simp [encO] at hp
  rcases hp with h | h | h | h | h | h <;> subst h <;> rfl
theorem wk_U2 (l : List Rs) : DV.wk.go (cells encU2 l) = cells encU2 l := wk_cells encU2 l fun a p hp => by
  simp [encU2] at hp
  rcases hp with h | h | h | h | h | h <;> subst h <;> rfl
attribute [go_sem] wk_O wk_U2
structure Ru (s : Sv) (l : List Sp) where
  i : Nat
  c : Sc
  out : List Rs
  hi : i ≤ l.length
  h1 : i ≤ 1000
  hc : c.sm i
  ho : out.length = i
  ev : EvK (4 * i) s.k c.s.k
@[go_sem] def runD (a : Sv × List Rs × List Rd) : DV := .tup [.agg a.1.d, .pv (.sl (fz encU2 a.2.1)), .pv (.sl (fz encO a.2.2))]
theorem rrun_w (s : Sv) (hs : s.sm) (l : List Sp) (h6 : ∀ i, i < l.length → (l.getD i Sp0).kind ≠ 6) : VCalls prog 87 [.agg s.d, .pv (.sl (fz encV l))] [] (RetS runD fun a => a.1.sm ∧ EvK (4 * l.length) s.k a.1.k) := by
  refine dk Tryz.func87 ?_
  (unfold Tryz.f87; refine rn trivial ?_)
  refine VLoop.nilOwnC 2 18 3 1 rfl rfl ?_
  refine VLoop.nilOwnC 2 19 185 6 rfl rfl ?_
  refine VLoop.nilOwn 8 156 6 rfl ?_
  refine rn trivial ?_
  refine vloopW (fun r : Ru s l => ⟨48, 0, [(9, .int .i64 r.i), (8, .own 4 6 0 r.out.length), (7, .ptr 1 0), (4, .ptr 0 0), (1, .pv (.sl (fz encV l)))], [⟨102, true, Zv⟩, scB r.c 2 3, scT r.c.tx, scR r.c.rd, ⟨156, true, cells encU2 r.out⟩]⟩) (fun r => l.length - r.i) ⟨0, ⟨s, [], [], false⟩, [], Nat.zero_le _, by decide, ⟨hs, Nat.zero_le _, Nat.zero_le _⟩, rfl, EvK.refl _ _⟩ (gc [1, 2, 3, 4, 5]) ?_
  rintro ⟨i, c, out, hi, h1, hc, ho, h⟩
  dsimp only
  unfold Zv
  have hg := fun h : i < l.length => fzV_at l i h
  have hb : (out.length + 1) * 72 ≤ 140737488355328 := by omega
  obtain ⟨sv, tx, rd, dead⟩ := c
  cases dead
  rotate_left
  · skip
    have F := @hg
    refine rn F ?_
    repeat' (first
      | with_reducible exact ⟨⟩
      | (refine sG F ?_ ?_ <;> intro hZ)
      | (refine vspineT (id := 7) [[], [0], [0, 1], [0, 1, 2], [], [], [5], [5, 6], [5, 6, 7], [0, 1, 2, 3], [0, 1, 2, 3, 4, 9], [0, 1, 2, 3, 4, 5, 6, 7, 8, 9, 10]] [0, 1, 2, 3, 4, 5, 6, 7, 8] [⟨[], [], 9, [4, 5, 6, 7, 8], []⟩, ⟨[], [], 10, [5, 6, 7, 8], []⟩, ⟨[], [], 11, [], []⟩] (by kernel_rfl) (by kernel_rfl) (by kernel_rfl) ?_; refine rn F ?_))
    all_goals exact ⟨rfl, rfl, (sv, out, rd), rfl, hc.1, EvK.mono h (by omega)⟩
  have F := @hg
  refine rn F ?_
  repeat' (first
    | with_reducible exact ⟨⟩
    | (refine sG F ?_ ?_ <;> intro hZ)
    | (refine vspineT (id := 7) [[], [0], [0, 1], [0, 1, 2], [], [], [5], [5, 6], [5, 6, 7], [0, 1, 2, 3], [0, 1, 2, 3, 4, 9], [0, 1, 2, 3, 4, 5, 6, 7, 8, 9, 10]] [0, 1, 2, 3, 4, 5, 6, 7, 8] [⟨[], [], 9, [4, 5, 6, 7, 8], []⟩, ⟨[], [], 10, [5, 6, 7, 8], []⟩, ⟨[], [], 11, [], []⟩] (by kernel_rfl) (by kernel_rfl) (by kernel_rfl) ?_; refine rn F ?_))
  all_goals first | exact ⟨rfl, rfl, (sv, out, rd), rfl, hc.1, EvK.mono h (by omega)⟩ | skip
  have hil : i < l.length := by omega
  refine vc_sc (c := ⟨sv, tx, rd, false⟩) 1 2 3 (rstepA_w _ i (by omega) hc (l.getD i Sp0) (h6 i hil)) rfl rfl rfl (by decide) (by decide) (by decide) rfl rfl ?_ ?_ ?_
  all_goals
    rintro c1 r1 ⟨q1, q2⟩ B
    refine rn @hb ?_
    have hl2 : (out ++ [r1]).length = out.length + 1 := by simp
    refine ⟨⟨i + 1, c1, out ++ [r1], hil, by omega, q1, by rw [hl2]; omega, EvK.trans h q2 (by omega)⟩, by dsimp only; omega, ?_⟩
    dsimp only
    rw [hl2]
  · exact (gc [0, 1, 2, 3, 7])
  · exact (gc [0, 1, 5, 3, 8])
  · exact (gc [0, 1, 2, 5, 8])
end
section
attribute [local go_sem] cb cc
theorem kinds_get (i : Nat) (h : i < 12) : ∃ n : Int, ([.pv (.lit (.int .i64 1)), .pv (.lit (.int .i64 1)), .pv (.lit (.int .i64 2)), .pv (.lit (.int .i64 2)), .pv (.lit (.int .i64 2)), .pv (.lit (.int .i64 3)), .pv (.lit (.int .i64 4)), .pv (.lit (.int .i64 5)), .pv (.lit (.int .i64 6)), .pv (.lit (.int .i64 7)), .pv (.lit (.int .i64 2)), .pv (.lit (.int .i64 4))] : List DV)[i]? = some (.int .i64 n) := by
  have e : ([.pv (.lit (.int .i64 1)), .pv (.lit (.int .i64 1)), .pv (.lit (.int .i64 2)), .pv (.lit (.int .i64 2)), .pv (.lit (.int .i64 2)), .pv (.lit (.int .i64 3)), .pv (.lit (.int .i64 4)), .pv (.lit (.int .i64 5)), .pv (.lit (.int .i64 6)), .pv (.lit (.int .i64 7)), .pv (.lit (.int .i64 2)), .pv (.lit (.int .i64 4))] : List DV) = ([1, 1, 2, 2, 2, 3, 4, 5, 6, 7, 2, 4] : List Int).map (DV.int .i64) := rfl
  refine ⟨([1, 1, 2, 2, 2, 3, 4, 5, 6, 7, 2, 4] : List Int)[i]'h, ?_⟩
  rw [e, List.getElem?_map, List.getElem?_eq_getElem h]; rfl
theorem action_v (c : C) (m : Nat) (h1 : 1 ≤ m) (h2 : m ≤ 1000) : VCalls prog 120 [.ptr 0 0, .int .i64 m] [cb c] (CX fun r => ∃ a : Ac, r = .agg a.d) := by
  refine dd Tryz.func120 ?_
  (unfold Tryz.f120; refine rn trivial ?_)
  refine vc_cx (k := 0) (c := c) (next_v c 12 (by omega) (by omega)) rfl rfl ?_
  rintro _ c1 ⟨y, rfl, hy⟩
  obtain ⟨n, hn⟩ := kinds_get y hy
  have F := @hn
  refine rn F ?_
  repeat' (first
    | with_reducible exact ⟨⟩
    | (refine sB F ?_ ?_ <;> intro hZ)
    | (refine vc_cx (k := 0) (next_v _ 2 (by omega) (by omega)) rfl rfl ?_; rintro _ _ ⟨_, rfl, _⟩; refine rn F ?_)
    | (refine vc_cx (k := 0) (next_v _ 40 (by omega) (by omega)) rfl rfl ?_; rintro _ _ ⟨_, rfl, _⟩; refine rn F ?_)
    | (refine vc_cx (k := 0) (next_v _ m (by omega) (by omega)) rfl rfl ?_; rintro _ _ ⟨_, rfl, _⟩; refine rn F ?_)
    | (refine vc_cx (k := 0) (data_v _) rfl rfl ?_; rintro _ _ ⟨_, rfl, _⟩; refine rn F ?_)
    | (refine vc_cx (k := 0) (int_v _) rfl rfl ?_; rintro _ _ ⟨_, rfl, _⟩; refine rn F ?_))
  all_goals first
    | exact ⟨_, rfl, rfl, cc_nums _, rfl, ⟨⟨_, _, _, _⟩, rfl⟩, _, rfl⟩
    | skip
theorem step_v (c : C) (m n : Nat) (h1 : 1 ≤ m) (h2 : m ≤ 1000) (h3 : 1 ≤ n) (h4 : n ≤ 1000) : VCalls prog 103 [.ptr 0 0, .int .i64 m, .int .i64 n, .bool false] [cb c] (CX fun r => ∃ t : Sp, r = .agg t.d ∧ t.kind ≠ 6) := by
  refine dd Tryz.func103 ?_
  (unfold Tryz.f103; refine rn trivial ?_)
  refine rn F ?_
  repeat' (first
    | with_reducible exact ⟨⟩
    | (refine sB F ?_ ?_ <;> intro hZ)
    | (refine vc_cx (k := 0) (next_v _ 16 (by omega) (by omega)) rfl rfl ?_; rintro _ _ ⟨_, rfl, _⟩; refine rn F ?_)
    | (refine vc_cx (k := 0) (next_v _ m (by omega) (by omega)) rfl rfl ?_; rintro _ _ ⟨_, rfl, _⟩; refine rn F ?_)
    | (refine vc_cx (k := 0) (next_v _ n (by omega) (by omega)) rfl rfl ?_; rintro _ _ ⟨_, rfl, _⟩; refine rn F ?_)
    | (refine vc_cx (k := 0) (action_v _ m h1 h2) rfl rfl ?_; rintro _ _ ⟨_, rfl, _⟩; refine rn F ?_))
  all_goals exact ⟨_, rfl, rfl, cc_nums _, rfl, ⟨⟨_, _, _, _, _, ⟨_, _, _, _⟩⟩, rfl, by simp⟩, _, rfl⟩
end
section
attribute [local go_sem] cb cc
theorem rdnew0 (n : Int) (h : 1 ≤ n ∧ n ≤ 64) : VCalls prog 101 [.int .i64 n] [] (RetS dvD fun a => dvQ a ∧ a.2 = 0) := by
  refine dk Tryz.func101 ?_
  have c1 := rblanks_w n
  (unfold Tryz.f101; refine rn trivial ?_)
  refine rn F ?_
  repeat' (first
    | with_reducible exact ⟨⟩
    | (refine vc_S (c1 (by omega)) rfl ?_; rintro l hl; refine rn F ?_))
  all_goals first
    | (exfalso; omega)
    | exact ⟨rfl, rfl, (⟨l, 0, false⟩, 0), rfl, hl, rfl⟩
    | skip
theorem rknew0 (n m : Int) (h : 1 ≤ n ∧ n ≤ 64) (h2 : 1 ≤ m ∧ m ≤ 64) : VCalls prog 100 [.int .i64 n, .int .i64 m] [] (RetS kiD fun a => a.1.sm ∧ a.2 = 0 ∧ a.1.lg = Lg1 ∧ a.1.la = [] ∧ a.1.phi = 0) := by
  refine dk Tryz.func100 ?_
  have c1 := rpnew_v m
  have c2 := rixnew_w n
  have c3 := rlnew_v
  have hf := plNew_fs m
  generalize plNew m = p at *
  (unfold Tryz.f100; refine rn trivial ?_)
  refine rn F ?_
  repeat' (first
    | with_reducible exact ⟨⟩
    | refine vp F (c1) ?_
    | (refine vc_S (c2) rfl ?_; rintro ⟨l, e⟩ hl; refine rn F ?_)
    | refine vp F (c3) ?_
    | (refine vspine (id := 5) [0, 2, 3] [⟨[], [], 1, [0, 2, 3], [4]⟩, ⟨[], [], 5, [], []⟩, ⟨[], [], 6, [], []⟩] (by kernel_rfl) (by kernel_rfl) ?_; refine rn F ?_))
  all_goals first
    | (exfalso; omega)
    | exact ⟨rfl, rfl, (⟨n, 1, Lg1, p.1, Lk0, [], l, []⟩, 0), rfl, ⟨Nat.zero_le _, by dsimp only; rw [hf]; exact Nat.zero_le _, Nat.zero_le _, smN_nil _, hl, Nat.zero_le _⟩, rfl, rfl, rfl, by unfold Kn.phi; dsimp only; rw [hf]; rfl⟩
    | skip
theorem rsnew0 (n m : Int) (h : 1 ≤ n ∧ n ≤ 64) (h2 : 1 ≤ m ∧ m ≤ 64) : VCalls prog 86 [.int .i64 n, .int .i64 m] [] (RetS svD fun a => a.1.sm ∧ a.2 = 0 ∧ a.1.k.lg = Lg1 ∧ a.1.k.la = [] ∧ a.1.k.phi = 0) := by
  refine dk Tryz.func86 ?_
  have c1 := rknew0 n m h h2
  have c2 := rdnew0 n h
  (unfold Tryz.f86; refine rn trivial ?_)
  refine vc_S c1 rfl ?_
  rintro ⟨k, e⟩ ⟨hk, he, hg⟩
  dsimp only at hk he hg
  subst he
  refine rn trivial ?_
  refine vc_S c2 rfl ?_
  rintro ⟨v, e⟩ ⟨hv, he⟩
  dsimp only at he
  subst he
  refine rn trivial ?_
  exact ⟨rfl, rfl, (⟨k, v⟩, 0), rfl, ⟨hk, hv⟩, rfl, hg⟩
theorem app_V (l : List Sp) (a b c d e f g h : Int) (s : List UInt8) : cells encV l ++ [.pv (.lit (.int .i64 a)), .pv (.lit (.int .i64 b)), .pv (.lit (.int .i64 c)), .pv (.lit (.int .i64 d)), .pv (.lit (.int .i64 e)), .pv (.lit (.int .i64 f)), .pv (.lit (.int .i64 g)), .pv (.lit (.int .i64 h)), .pv (.str s)] = cells encV (l ++ [⟨a, b, c, d, e, ⟨f, g, h, s⟩⟩]) := by rw [cells_app]; rfl
def no6 (l : List Sp) : Prop := ∀ i, i < l.length → (l.getD i Sp0).kind ≠ 6
theorem no6_app {l : List Sp} (h : no6 l) {t : Sp} (ht : t.kind ≠ 6) : no6 (l ++ [t]) := fun i hi => by
  rw [List.length_append, List.length_singleton] at hi
  rw [List.getD_eq_getElem?_getD]
  by_cases hc : i < l.length
  · rw [List.getElem?_append_left hc, ← List.getD_eq_getElem?_getD]; exact h i hc
  · rw [List.getElem?_append_right (by omega), show i - l.length = 0 by omega]; exact ht
structure Sd (most : Nat) where
  k : Nat
  c : C
  l : List Sp
  hk : k + l.length ≤ most + 2
  h6 : no6 l
def spB : Sp := ⟨1, 0, 0, 0, 0, ⟨0, 0, 0, []⟩⟩
theorem sched_v (c : C) (m most : Nat) (h1 : 1 ≤ m) (h2 : m ≤ 1000) (hm : most ≤ 1000) : VCalls prog 88 [.ptr 0 0, .int .i64 m, .int .i64 most, .bool false] [cb c] (CX fun r => ∃ l : List Sp, r = .pv (.sl (fz encV l)) ∧ no6 l ∧ l.length ≤ most + 2) := by
  refine dd Tryz.func88 ?_
  (unfold Tryz.f88; refine rn trivial ?_)
  refine vc_cx (k := 0) (c := c) (next_i c ((most : Int) + 1) (by omega) (by omega)) rfl rfl ?_
  rintro _ c1 ⟨k, rfl, hk⟩
  refine rn trivial ?_
  refine vloopW (fun s : Sd most => ⟨30, 1, [(10, .int .i64 s.k), (9, .own 1 9 0 s.l.length), (3, .bool false), (1, .int .i64 m), (0, .ptr 0 0)], [cb s.c, ⟨161, true, cells encV s.l⟩]⟩) (fun s => s.k) ⟨k, c1, [spB, spB], by simp; omega, fun i hi => by
    have : i = 0 ∨ i = 1 := by simp at hi; omega
    rcases this with rfl | rfl <;> decide⟩ (gc [0, 1]) ?_
  rintro ⟨k, c2, l, hk, h6⟩
  dsimp only
  have hb : (l.length + 1) * 80 ≤ 140737488355328 := by omega
  by_cases hc : 0 < k
  · obtain ⟨k, rfl⟩ : ∃ k' : Nat, k = k' + 1 := ⟨k - 1, by omega⟩
    have hkk : ((k + 1 : Nat) : Int) - 1 = k := by omega
    have F := (And.intro @hb @hkk)
    refine rn F ?_
    refine vc_cx (k := 0) (c := c2) (step_v c2 m 5 h1 h2 (by omega) (by omega)) rfl rfl ?_
    rintro _ c3 ⟨t, rfl, ht⟩
    have F := (And.intro @hb (And.intro @app_V @hkk))
    refine rn F ?_
    have hl2 : (l ++ [t]).length = l.length + 1 := by simp
    refine ⟨⟨k, c3, l ++ [t], by rw [hl2]; omega, no6_app h6 ht⟩, by dsimp only; omega, ?_⟩
    dsimp only
    rw [hl2]
    exact (gc [0, 3])
  · skip
    have F := @hb
    refine rn F ?_
    exact ⟨_, rfl, rfl, cc_nums _, rfl, ⟨l, rfl, h6, by omega⟩, _, rfl⟩
def LgI (x : Lg) : Prop := lgB x = true ∧ x.f = 1
theorem LgI.next {d : Nat} {x y : Kn} (h : EvK d x y) (hl : x.lg = Lg1) (ha : x.la = []) (hp : x.phi = 0) : LgI y.lg ∧ y.lg.es.length ≤ d := by
  have e := h.phi ha
  rw [hp] at e
  refine ⟨⟨h.ev.ok (by rw [hl]; exact Lg1_ok), h.ev.f.trans (by rw [hl]; rfl)⟩, ?_⟩
  unfold Kn.phi at e
  omega
theorem service_v (c : C) (most : Nat) (hm : most ≤ 1000) : VCalls prog 62 [.ptr 0 0, .int .i64 most, .bool false] [cb c] (CX fun r => ∃ s : Sv, r = .agg s.d ∧ s.sm ∧ LgI s.k.lg ∧ s.k.lg.es.length ≤ 4 * (most + 2)) := by
  refine dd Tryz.func62 ?_
  (unfold Tryz.f62; refine rn trivial ?_)
  refine vc_cx (k := 0) (c := c) (next_v c 4 (by omega) (by omega)) rfl rfl ?_
  rintro _ c1 ⟨x, rfl, hx⟩
  obtain ⟨m, hm1, hm2⟩ : ∃ m : Nat, 1 + (x : Int) = m ∧ m ≤ 4 := ⟨1 + x, by omega, by omega⟩
  refine rn @hm1 ?_
  refine vc_cx (k := 0) (c := c1) (next_v c1 3 (by omega) (by omega)) rfl rfl ?_
  rintro _ c2 ⟨y, rfl, hy⟩
  refine rn trivial ?_
  refine vc_S (rsnew0 m (1 + y) (by omega) (by omega)) rfl ?_
  rintro ⟨s, e⟩ ⟨hs, he, hg⟩
  dsimp only at hs he hg
  subst he
  refine rn F ?_
  repeat' (first
    | with_reducible exact ⟨⟩
    | (refine vspine (id := 3) [0, 1, 2, 3, 4] [⟨[], [], 5, [0], []⟩, ⟨[], [], 6, [1, 2, 3, 4], [7, 8, 9, 10]⟩, ⟨[], [], 11, [9, 10], []⟩] (by kernel_rfl) (by kernel_rfl) ?_; refine rn F ?_))
  refine vc_cx (k := 0) (c := c2) (sched_v c2 m most (by omega) (by omega) hm) rfl rfl ?_
  rintro _ c3 ⟨l, rfl, h6, hl⟩
  have c9 := rrun_w s hs l h6
  refine rn trivial ?_
  refine vc_S c9 rfl ?_
  rintro ⟨s1, out, rd⟩ ⟨q1, q2⟩
  refine rn trivial ?_
  exact ⟨_, rfl, rfl, cc_nums _, rfl, ⟨s1, rfl, q1, ((LgI.next q2 hg.1 hg.2.1 hg.2.2)).1, Nat.le_trans (LgI.next q2 hg.1 hg.2.1 hg.2.2).2 (by omega)⟩, _, rfl⟩
theorem kernelN_v (c : C) (most : Nat) (hm : most ≤ 1000) : VCalls prog 38 [.ptr 0 0, .int .i64 most, .bool false] [cb c] (CX fun r => ∃ k : Kn, r = .agg k.d ∧ k.sm ∧ LgI k.lg ∧ k.lg.es.length ≤ 4 * (most + 2)) := by
  refine dd Tryz.func38 ?_
  (unfold Tryz.f38; refine rn trivial ?_)
  refine vc_cx (k := 0) (c := c) (service_v c most hm) rfl rfl ?_
  rintro _ c1 ⟨s, rfl, hs, hi⟩
  refine rn trivial ?_
  exact ⟨_, rfl, rfl, cc_nums _, rfl, ⟨s.k, rfl, hs.1, hi⟩, _, rfl⟩
theorem kernel_v (c : C) (most : Nat) (hm : most ≤ 1000) : VCalls prog 38 [.ptr 0 0, .int .i64 most, .bool false] [cb c] (CX fun r => ∃ k : Kn, r = .agg k.d ∧ k.sm ∧ LgI k.lg) :=
  (kernelN_v c most hm).mono fun r h' ⟨B, e1, e2, e3, e4, ⟨k, e5, e6, e7, _⟩, e8⟩ => ⟨B, e1, e2, e3, e4, ⟨k, e5, e6, e7⟩, e8⟩
end
section
attribute [local go_sem] cb cc allEq leafEq appD lgD
theorem jget_v (x : Lg) (hx : x.es.length ≤ 9223372036854775807) (n : Int) : VCalls prog 27 [.agg x.c, .int .i64 n] [] (Ret (.tup [.agg (getE x n).1.d, .int .i64 (getE x n).2])) := by
  refine dk Tryz.func27 ?_
  have c1 := jvalid_v x hx
  have c2 := jend_v x
  have hh := @lgB_hd x
  simp only [Lg.hd] at hh
  have e0 : getE x n = if lgB x = false then (E0, 26) else if n < x.f ∨ x.end_ < n then (E0, 14) else (x.es.getD (n - x.f).toNat E0, 0) := rfl
  generalize getE x n = r at *
  generalize lgB x = b at *
  cases b
  · (unfold Tryz.f27; refine rn trivial ?_; try with_reducible exact ⟨⟩)
    refine rn F ?_
    repeat' (first
      | with_reducible exact ⟨⟩
      | refine vp F (c1) ?_)
    all_goals (first | (rw [e0]; simp (disch := first | assumption | omega | exact rfl | exact nf (by assumption) | exact nt (by assumption) | decide | fail) only [if_pos, if_neg]; first | done | rfl) | (rw [e0]; simp (disch := first | assumption | omega | exact rfl | exact nf (by assumption) | exact nt (by assumption) | decide | (simp_all; done) | fail) only [if_pos, if_neg]; first | done | rfl))
  · replace hh := hh rfl
    have hdef : x.end_ = x.f + x.es.length - 1 := rfl
    generalize x.end_ = en at *
    have hg := fun h : (n - x.f).toNat < x.es.length => fzE_g x.es (n - x.f).toNat h
    (unfold Tryz.f27; refine rn trivial ?_)
    have F := @hg
    refine rn F ?_
    repeat' (first
      | with_reducible exact ⟨⟩
      | (refine sG F ?_ ?_ <;> intro hZ)
      | (refine sB F ?_ ?_ <;> intro hZ)
      | refine vp F (c1) ?_
      | refine vp F (c2 (by omega) (by omega)) ?_)
    all_goals first | (first | (rw [e0]; simp (disch := first | assumption | omega | exact rfl | exact nf (by assumption) | exact nt (by assumption) | decide | fail) only [if_pos, if_neg]; first | done | rfl) | (rw [e0]; simp (disch := first | assumption | omega | exact rfl | exact nf (by assumption) | exact nt (by assumption) | decide | (simp_all; done) | fail) only [if_pos, if_neg]; first | done | rfl)) | skip
def Lc (es : List E) (a : Nat) : Lg := ⟨1 + a, es.drop a, es.length⟩
theorem seqE_dropC {l : Int} {es : List E} (h : seqE l es) (n : Nat) : seqE (l + n) (es.drop n) := fun i hi => by
  rw [List.length_drop] at hi
  have := h (n + i) (by omega)
  rw [List.getD_eq_getElem?_getD, List.getElem?_drop, ← List.getD_eq_getElem?_getD]
  exact ⟨by rw [this.1]; omega, this.2⟩
theorem Lc_ok {es : List E} {d : Int} (h : lgB ⟨1, es, d⟩ = true) {a : Nat} (ha : a ≤ es.length) : lgB (Lc es a) = true := by
  have hh := lgB_hd h
  simp only [Lg.hd] at hh
  have hl : (es.drop a).length = es.length - a := List.length_drop
  refine lgB_of (x := Lc es a) ?_ (show seqE (1 + a) (es.drop a) from seqE_dropC (show seqE 1 es from lgB_seq h) a)
  simp only [Lg.hd, Lc]
  omega
theorem Lc_end (es : List E) {a : Nat} (ha : a ≤ es.length) : (Lc es a).end_ = es.length := by
  have hl : (es.drop a).length = es.length - a := List.length_drop
  simp only [Lg.end_, Lc]
  omega
theorem force_Lc {es : List E} {d : Int} (h : lgB ⟨1, es, d⟩ = true) : forceS ⟨1, es, d⟩ es.length = (Lc es 0, 0) := by
  have hh := lgB_hd h
  simp only [Lg.hd] at hh
  unfold forceS Lg.end_ Lc
  rw [if_neg (by rw [h]; decide), if_neg (by dsimp only; omega)]
  have e : (if (es.length : Int) > d then (es.length : Int) else d) = es.length := by split <;> omega
  dsimp only
  rw [e]; rfl
theorem cut_Lc {es : List E} {d : Int} (h : lgB ⟨1, es, d⟩ = true) {a b : Nat} (hab : a ≤ b) (hb : b ≤ es.length) : cutS (Lc es a) (1 + b) = (Lc es b, 0) := by
  have hh := lgB_hd h
  simp only [Lg.hd] at hh
  unfold cutS
  rw [if_neg (by rw [Lc_ok h (Nat.le_trans hab hb)]; decide), if_neg (by rw [Lc_end es (Nat.le_trans hab hb)]; unfold Lc; dsimp only; omega), if_neg (by unfold Lc; dsimp only; omega)]
  unfold Lc
  dsimp only
  rw [List.drop_drop, show (1 + (b : Int) - (1 + a)).toNat = b - a by omega, show a + (b - a) = b by omega]
theorem last_Lc {es : List E} {d : Int} (h : lgB ⟨1, es, d⟩ = true) {a : Nat} (ha : a ≤ es.length) : lastS (Lc es a) = es.length := by
  unfold lastS
  rw [if_pos (Lc_ok h ha), Lc_end es ha]
def noteK : E := ⟨0, 8, 0, 0, 0, 0, Ch0, []⟩
theorem noteK_ok {a : Int} (h1 : 1 ≤ a) (h2 : a ≤ 1099511627776) : ({ noteK with lsn := a } : E).okB = true := by
  have e : ({ noteK with lsn := a } : E).kindB = true := rfl
  have e0 : ({ noteK with lsn := a } : E).okB = (decide (1 ≤ a) && decide (a ≤ 1099511627776) && bef 0 a && bef 0 a && bef 0 a && ({ noteK with lsn := a } : E).kindB) := rfl
  have e1 : bef 0 a = true := by simp [bef]; omega
  rw [e0, e, e1, decide_eq_true h1, decide_eq_true h2]; rfl
theorem app_Lc {es : List E} {d : Int} (h : lgB ⟨1, es, d⟩ = true) (hl : es.length ≤ 4000) {a : Nat} (ha : a ≤ es.length) : ∃ x : Lg, appS (Lc es a) noteK = (x, (es.length : Int) + 1, 0) := by
  have hd : (es.drop a).length = es.length - a := List.length_drop
  refine ⟨⟨(Lc es a).f, (Lc es a).es ++ [{ noteK with lsn := (Lc es a).end_ + 1 }], (Lc es a).d⟩, ?_⟩
  unfold appS
  have he := Lc_end es ha
  rw [if_neg (by rw [Lc_ok h ha]; decide), if_neg (by rw [he]; unfold Lc; dsimp only; omega), if_neg (by rw [he, noteK_ok (by omega) (by omega)]; decide), he]
theorem get_Lc {es : List E} {d : Int} (h : lgB ⟨1, es, d⟩ = true) {a : Nat} (ha : a ≤ es.length) {i : Nat} (hi : i < es.length) : getE (Lc es a) (1 + i) = if i < a then (E0, 14) else (es.getD i E0, 0) := by
  unfold getE
  rw [if_neg (by rw [Lc_ok h ha]; decide), Lc_end es ha]
  by_cases hia : i < a
  · rw [if_pos hia, if_pos (.inl (by unfold Lc; dsimp only; omega))]
  · rw [if_neg hia, if_neg (by unfold Lc; dsimp only; omega)]
    unfold Lc
    dsimp only
    rw [List.getD_eq_getElem?_getD, List.getElem?_drop, ← List.getD_eq_getElem?_getD, show a + (1 + (i : Int) - (1 + a)).toNat = i by omega]
theorem jcuts_v (l : List UInt8) (hl : l.length ≤ 9223372036854775807) (p : Int) (hp : 0 ≤ p ∧ p ≤ 255) (q : Int) (hq : 0 ≤ q ∧ q ≤ 255) : VCalls prog 7 [.pv (.sl (fz encU l)), .int .u8 p, .int .u8 q] [] (Ret (.bool true)) := by
  refine dd Tryz.func7 ?_
  have c0 := awake6_v
  (unfold Tryz.f7; refine rn trivial ?_)
  refine rn F ?_
  repeat' (first
    | with_reducible exact ⟨⟩
    | refine vp F (c0) ?_)
  refine vc_draw (most := 300) (by omega) (by omega) hl fun c => ?_
  refine rn trivial ?_
  refine vc_cx (k := 0) (c := c) (kernelN_v c 24 (by omega)) rfl rfl ?_
  rintro _ c1 ⟨k, rfl, hk, ⟨hv, hf⟩, hn⟩
  obtain ⟨pg, nx, ⟨f, es, d0⟩, pl, lk, tx, ix, la⟩ := k
  dsimp only at hf hn
  subst hf
  have hd := lgB_hd hv
  simp only [Lg.hd] at hd
  obtain ⟨p, rfl⟩ : ∃ b : Nat, p = b := ⟨p.toNat, by omega⟩
  obtain ⟨q, rfl⟩ : ∃ b : Nat, q = b := ⟨q.toNat, by omega⟩
  obtain ⟨a, ha, ha2⟩ := tmod_lt' p (es.length + 1) (by omega)
  rw [show ((es.length + 1 : Nat) : Int) = (es.length : Int) + 1 by omega] at ha
  obtain ⟨b, hb, hb2⟩ := tmod_lt' q (es.length + 1 - a) (by omega)
  rw [show ((es.length + 1 - a : Nat) : Int) = (es.length : Int) + 2 - (1 + a) by omega] at hb
  have hab : ((1 : Int) + a + b) = 1 + (a + b : Nat) := by omega
  have k1 := jlast_v ⟨1, es, d0⟩ (by dsimp only; omega)
  rw [show lastS ⟨1, es, d0⟩ = es.length by unfold lastS; rw [if_pos hv]; simp only [Lg.end_]; omega] at k1
  have k2 := force_v ⟨1, es, d0⟩ (by dsimp only; omega) es.length
  rw [force_Lc hv] at k2
  have hln : ∀ n, (Lc es n).es.length ≤ 4096 := fun n => by simp only [Lc, List.length_drop]; omega
  have k3 := cut_v (Lc es 0) (Nat.le_trans (hln _) (by decide)) (1 + a)
  rw [cut_Lc hv (Nat.zero_le _) (by omega)] at k3
  have k4 := cut_v (Lc es a) (Nat.le_trans (hln _) (by decide)) (1 + (a + b : Nat))
  rw [cut_Lc hv (by omega) (by omega)] at k4
  have k5 := cut_v (Lc es 0) (Nat.le_trans (hln _) (by decide)) (1 + (a + b : Nat))
  rw [cut_Lc hv (by omega) (by omega)] at k5
  have k6 := rsameL_v (Lc es (a + b)) (Lc es (a + b)) (Nat.le_trans (hln _) (by decide))
  rw [lgS_self] at k6
  have k7 := jlast_v (Lc es (a + b)) (Nat.le_trans (hln _) (by decide))
  rw [last_Lc hv (by omega)] at k7
  have k8 := append_v (Lc es (a + b)) (Nat.le_trans (hln _) (by decide)) noteK
  obtain ⟨z, hz⟩ := app_Lc hv (by omega) (show a + b ≤ es.length by omega)
  rw [hz] at k8
  have k9 := fun n => jget_v (Lc es (a + b)) (Nat.le_trans (hln _) (by decide)) n
  have k10 := fun n => jget_v (Lc es 0) (Nat.le_trans (hln _) (by decide)) n
  have g1 : ∀ i : Nat, i < es.length → getE (Lc es (a + b)) (1 + i) = if i < a + b then (E0, 14) else (es.getD i E0, 0) := fun i hi => get_Lc hv (by omega) hi
  have g2 : ∀ i : Nat, i < es.length → getE (Lc es 0) (1 + i) = (es.getD i E0, 0) := fun i hi => (get_Lc hv (Nat.zero_le _) hi).trans (if_neg (by omega))
  clear hln hz
  generalize Lc es (a + b) = Lb at *
  generalize Lc es a = La at *
  generalize Lc es 0 = L0 at *
  have F := (And.intro @ha (And.intro @hb @hab))
  refine rn F ?_
  repeat' (first
    | with_reducible exact ⟨⟩
    | refine vp F (k1) ?_
    | refine vp F (k2) ?_
    | refine vp F (k3) ?_
    | refine vp F (k4) ?_
    | refine vp F (k5) ?_
    | refine vp F (k6) ?_
    | refine vp F (k7) ?_
    | refine vp F (k8) ?_)
  all_goals first | (exfalso; omega) | skip
  refine vloopW (fun s : To es.length => ⟨148, 0, [(22, .int .i64 (1 + (s.i : Int))), (21, .int .i64 0), (20, .int .i64 (es.length + 1)), (15, .ptr 2 0), (12, .int .i64 (1 + (a + b : Nat))), (9, .int .i64 es.length), (8, .ptr 1 0)], [cb c1, ⟨25, true, L0.c⟩, ⟨25, true, Lb.c⟩]⟩) (fun s => es.length - s.i) ⟨0, Nat.zero_le _⟩ (gc [0, 1, 3]) ?_
  rintro ⟨i, hi⟩
  dsimp only
  have k9 := k9 (1 + i)
  have k10 := k10 (1 + i)
  have e1 : (1 : Int) + i + 1 = 1 + (i + 1 : Nat) := by omega
  by_cases hil : i < es.length
  rotate_left
  · skip
    have F := @e1
    (refine rn F ?_; try with_reducible exact True.intro)
    all_goals first | (exfalso; omega) | rfl | skip
  rw [g1 i hil] at k9
  rw [g2 i hil] at k10
  by_cases hc : i < a + b
  · rw [if_pos hc] at k9
    have F := @e1
    refine rn F ?_
    repeat' (first
      | with_reducible exact ⟨⟩
      | refine vp F (k9) ?_
      | refine vp F (k10) ?_)
    all_goals first
      | (exfalso; omega)
      | exact ⟨⟨i + 1, hil⟩, by dsimp only; omega, (gc [0, 1, 2])⟩
      | skip
  · rw [if_neg hc] at k9
    have F := @e1
    refine rn F ?_
    repeat' (first
      | with_reducible exact ⟨⟩
      | refine vp F (k9) ?_
      | refine vp F (k10) ?_)
    all_goals first
      | (exfalso; omega)
      | exact ⟨⟨i + 1, hil⟩, by dsimp only; omega, (gc [0, 1, 2])⟩
      | skip
end
section
attribute [local go_sem] cb cc
structure Fo (n : Nat) (d0 : Int) (N : Nat) where
  i : Nat
  d : Int
  hi : i ≤ n
  h1 : d0 ≤ d
  h2 : d ≤ N
end
section
attribute [local go_sem] cb cc
end
theorem frames_find : ∀ (es : List E) (k : Nat), k < (es.flatMap frE).length → ∃ j, j < es.length ∧ ((es.take j).flatMap frE).length ≤ k ∧ k < ((es.take (j + 1)).flatMap frE).length
  | [], k, h => by simp at h
  | e :: r, k, h => by
    rw [List.flatMap_cons, List.length_append] at h
    by_cases hc : k < (frE e).length
    · exact ⟨0, by simp, by simp, by simpa using hc⟩
    · obtain ⟨j, h1, h2, h3⟩ := frames_find r (k - (frE e).length) (by omega)
      refine ⟨j + 1, by rw [List.length_cons]; omega, ?_, ?_⟩
      · rw [List.take_succ_cons, List.flatMap_cons, List.length_append]; omega
      · rw [List.take_succ_cons, List.flatMap_cons, List.length_append]; omega
theorem stepO_bad {e : E} (h : e.okB = true) (p r : List UInt8) (k : Nat) (hk : k < (frE e).length) (y : UInt8) (hy : y ≠ (frE e).getD k 0) (l : Int) : stepO (p ++ ((frE e).set k y ++ r)) p.length l = none := by
  have hq := encBy_len h
  have hl := frm_len hq
  rw [frE_ok h] at hk hy ⊢
  rw [hl] at hk
  by_cases h4 : 4 ≤ k
  · exact stepO_err (by rw [unf_bad hq p r k h4 hk y hy]; decide)
  · by_cases h0 : (unf (p ++ ((frm (encBy e)).set k y ++ r)) p.length).2.2 = 0
    · obtain ⟨h1, h2⟩ := unf_size hq p r k (by omega) y hy h0
      have h3 : encBy e <+: (frm (encBy e)).drop 4 ++ r := by
        rw [frm_eq hq, putL, frq, List.append_assoc, List.drop_left' (by rw [putL_len]; rfl), List.append_assoc]
        exact List.prefix_append _ _
      have h5 := dec_len e h h2 h3 h1
      exact if_neg fun x => h5 x.2.1
    · exact stepO_err h0
theorem set_app3 (p a r : List UInt8) (k : Nat) (h : k < a.length) (y : UInt8) : (p ++ (a ++ r)).set (p.length + k) y = p ++ (a.set k y ++ r) := by
  rw [List.set_append_right _ _ (by omega), Nat.add_sub_cancel_left, List.set_append_left _ _ h]
theorem getD_app3 (p a r : List UInt8) (k : Nat) (h : k < a.length) : (p ++ (a ++ r)).getD (p.length + k) 0 = a.getD k 0 := by
  rw [List.getD_eq_getElem?_getD, List.getElem?_append_right (by omega), Nat.add_sub_cancel_left, List.getElem?_append_left h, ← List.getD_eq_getElem?_getD]
theorem damage_open {f : Int} (hf : 1 ≤ f ∧ f ≤ 1099511627776) {es : List E} (he : seqE f es) (hl : es.length ≤ 4096) (k : Nat) (hk : 20 ≤ k) (hk2 : k < 20 + (es.flatMap frE).length) (y : UInt8) (hy : y ≠ (headL f ++ es.flatMap frE).getD k 0) :
    ∃ j, j < es.length ∧ openL ((headL f ++ es.flatMap frE).set k y) = (⟨f, es.take j, f + j - 1⟩, 0) ∧ 20 + ((es.take j).flatMap frE).length ≤ k ∧ k < 20 + ((es.take (j + 1)).flatMap frE).length := by
  obtain ⟨j, h1, h2, h3⟩ := frames_find es (k - 20) (by omega)
  refine ⟨j, h1, ?_, by omega, by omega⟩
  have hok := (he j h1).2
  have hlen : (es.take j).length = j := by rw [List.length_take]; omega
  have e1 : es = es.take j ++ (es.getD j E0 :: es.drop (j + 1)) := by
    rw [getD_eq es j h1, ← List.drop_eq_getElem_cons h1, List.take_append_drop]
  have e2 : headL f ++ es.flatMap frE = (headL f ++ (es.take j).flatMap frE) ++ (frE (es.getD j E0) ++ (es.drop (j + 1)).flatMap frE) := by
    conv => lhs; rw [e1, List.flatMap_append, List.flatMap_cons]
    rw [List.append_assoc]
  have hpl : (headL f ++ (es.take j).flatMap frE).length = 20 + ((es.take j).flatMap frE).length := by rw [List.length_append, headL_len']
  have e3 : es.take (j + 1) = es.take j ++ [es.getD j E0] := by rw [List.take_succ_eq_append_getElem h1, getD_eq es j h1]
  rw [e3, List.flatMap_append, List.length_append, List.flatMap_cons, List.flatMap_nil, List.append_nil] at h3
  obtain ⟨i, hi⟩ : ∃ i, k = (headL f ++ (es.take j).flatMap frE).length + i := ⟨k - (headL f ++ (es.take j).flatMap frE).length, by omega⟩
  have hi2 : i < (frE (es.getD j E0)).length := by omega
  rw [e2, hi, getD_app3 _ _ _ _ hi2] at hy
  rw [e2, hi, set_app3 _ _ _ _ hi2]
  have h5 := stepO_bad hok (headL f ++ (es.take j).flatMap frE) ((es.drop (j + 1)).flatMap frE) i hi2 y hy
  have := openL_frames (f := f) hf (seqE_take he j) (by omega) ((frE (es.getD j E0)).set i y ++ (es.drop (j + 1)).flatMap frE) (fun _ => by
    have h6 := h5 (f + (es.take j).length)
    rw [hpl, List.append_assoc] at h6
    exact h6)
  rw [hlen] at this
  rw [List.append_assoc]
  exact this
theorem damage_head {f : Int} (r : List UInt8) (k : Nat) (hk : k < 20) (y : UInt8) (hy : y ≠ (headL f ++ r).getD k 0) : openL ((headL f ++ r).set k y) = (Lg0, 4) := by
  have hq : (putL [80, 77, 76, 71] f 8).length ≤ 8392 := by rw [putL_len]; simp
  have hq2 : (putL [80, 77, 76, 71] f 8).length = 12 := by rw [putL_len]; rfl
  have hl := headL_len' f
  unfold headL at hy hl ⊢
  have e1 := set_app3 [] (frm (putL [80, 77, 76, 71] f 8)) r k (by omega) y
  have e2 := getD_app3 [] (frm (putL [80, 77, 76, 71] f 8)) r k (by omega)
  simp only [List.nil_append, List.length_nil, Nat.zero_add] at e1 e2
  rw [e2] at hy
  rw [e1]
  have hno : ¬ hdO ((frm (putL [80, 77, 76, 71] f 8)).set k y ++ r) := fun h => by
    by_cases h4 : 4 ≤ k
    · have := unf_bad hq [] r k h4 (by omega) y hy
      simp only [List.nil_append, List.length_nil] at this
      have h0 := h.1
      rw [show ((0 : Nat) : Int) = 0 from rfl] at this
      rw [this] at h0
      exact absurd h0 (by decide)
    · have := unf_size hq [] r k (by omega) y hy
      simp only [List.nil_append, List.length_nil] at this
      rw [show ((0 : Nat) : Int) = 0 from rfl] at this
      have h1 := (this h.1).1
      rw [hq2] at h1
      exact h1 h.2.1
  unfold openL
  rw [if_neg hno]
section
attribute [local go_sem] cb cc
theorem xor8 (x y : UInt8) : bits .xor .u8 (x.toNat : Int) (y.toNat : Int) = ((x ^^^ y).toNat : Int) := by
  show IntKind.u8.wrap ((BitVec.ofInt 8 (x.toNat : Int) ^^^ BitVec.ofInt 8 (y.toNat : Int)).toNat : Int) = _
  have h : ∀ z : UInt8, BitVec.ofInt 8 (z.toNat : Int) = z.toBitVec := fun z => by
    apply BitVec.eq_of_toNat_eq
    have := z.toNat_lt
    simp
  rw [h, h, wrap_u8_eq]
  have e : (x.toBitVec ^^^ y.toBitVec).toNat = (x ^^^ y).toNat := rfl
  have := (x ^^^ y).toNat_lt
  rw [e]; omega
theorem set_mid (s : List UInt8) (k : Nat) (h : k < s.length) (z : UInt8) : s.take k ++ [z] ++ s.drop (k + 1) = s.set k z := by
  rw [List.set_eq_take_append_cons_drop, if_pos h]; simp
theorem bytes_take {f d : Int} {es : List E} (h : lgB ⟨f, es, d⟩ = true) (n : Nat) : bytesL ⟨f, es.take n, f - 1⟩ = headL f ++ (es.take n).flatMap frE := by
  have hh := lgB_hd h
  simp only [Lg.hd] at hh
  unfold bytesL
  have hl : (es.take n).length ≤ es.length := by rw [List.length_take]; omega
  exact if_pos (lgB_of (x := ⟨f, es.take n, f - 1⟩) ⟨hh.1, hh.2.1, by dsimp only; omega, Int.le_refl _, by dsimp only; omega⟩ (show seqE f (es.take n) from seqE_take (show seqE f es from lgB_seq h) n))
theorem jdamage_v (l : List UInt8) (hl : l.length ≤ 9223372036854775807) (t : Int) (ht : 0 ≤ t ∧ t ≤ 65535) (b : Int) (hb : 0 ≤ b ∧ b ≤ 255) : VCalls prog 6 [.pv (.sl (fz encU l)), .int .u16 t, .int .u8 b] [] (Ret (.bool true)) := by
  refine dd Tryz.func6 ?_
  have c0 := awake6_v
  (unfold Tryz.f6; refine rn trivial ?_)
  refine rn F ?_
  repeat' (first
    | with_reducible exact ⟨⟩
    | (refine sB F ?_ ?_ <;> intro hZ)
    | refine vp F (c0) ?_)
  all_goals first | (rfl; done) | skip
  refine vc_draw (most := 300) (by omega) (by omega) hl fun c => ?_
  refine rn trivial ?_
  refine vc_cx (k := 0) (c := c) (kernel_v c 20 (by omega)) rfl rfl ?_
  rintro _ c1 ⟨k, rfl, hk, hv, hf⟩
  obtain ⟨pg, nx, ⟨f, es, d0⟩, pl, lk, tx, ix, la⟩ := k
  dsimp only at hf
  subst hf
  have hd := lgB_hd hv
  simp only [Lg.hd] at hd
  have hlen : es.length ≤ 4096 := hd.2.2.1
  obtain ⟨y, rfl⟩ := byteOf b hb
  have hy0 : y ≠ 0 := fun h => by subst h; simp_all
  have c2 := jbytes_v ⟨1, es, d0⟩ (by dsimp only; omega)
  have eS : bytesL ⟨1, es, d0⟩ = headL 1 ++ es.flatMap frE := if_pos hv
  rw [eS] at c2
  have hfl := fr_len es
  have hhl := headL_len' 1
  have hSl : (headL 1 ++ es.flatMap frE).length = 20 + (es.flatMap frE).length := by rw [List.length_append, hhl]
  have hdo := fun k h1 h2 z hz => damage_open (f := 1) ⟨by decide, by decide⟩ (show seqE 1 es from lgB_seq hv) hlen k h1 h2 z hz
  have hdh := fun k h1 z hz => damage_head (f := 1) (es.flatMap frE) k h1 z hz
  generalize hS : headL 1 ++ es.flatMap frE = S at *
  obtain ⟨a, rfl⟩ : ∃ a : Nat, t = a := ⟨t.toNat, by omega⟩
  obtain ⟨m, hm, hm2⟩ := tmod_lt' a S.length (by omega)
  have hcw := fun (hp : Heap) (k o n : Nat) => conv_bts (hp := hp) (k := k) (off := o) (len := n) btsC
  have hg : S[m]? = some (S.getD m 0) := by rw [List.getD_eq_getElem?_getD, List.getElem?_eq_getElem hm2]; rfl
  have hx := xor8 (S.getD m 0) y
  have hxne := xor_ne (S.getD m 0) y hy0
  have hxl := UInt8.toNat_lt (S.getD m 0 ^^^ y)
  have hofn : UInt8.ofNat (S.getD m 0 ^^^ y).toNat = S.getD m 0 ^^^ y := by simp
  have hv1 := fun (hp : Heap) (n : Int) => @vcso_one hp n
  have q1 : m ≤ S.length := by omega
  have q2 : m + 1 ≤ S.length := by omega
  have q3 : (0 : Int) ≤ (m : Int) + 1 := by omega
  have q4 : ((m : Int) + 1).toNat = m + 1 := by omega
  have hset := set_mid S m hm2 (S.getD m 0 ^^^ y)
  have c3 := jopen_v (S.set m (S.getD m 0 ^^^ y)) (by rw [List.length_set]; omega)
  generalize hz : S.getD m 0 ^^^ y = z at *
  have F := (And.intro @hm (And.intro @hcw (And.intro @hv1 (And.intro @hg (And.intro @hx (And.intro @q1 (And.intro @q2 (And.intro @q3 (And.intro @q4 @hofn)))))))))
  refine rn F ?_
  repeat' (first
    | with_reducible exact ⟨⟩
    | refine vp F (c2) ?_
    | (refine vspineT (id := 9) [[], [], [0, 1], [], [], [3, 4], [], [3, 4, 5, 6], [3, 4, 5, 6, 7], [3, 4, 5, 6, 7, 8], [0, 1, 2, 3, 4, 5, 6, 7, 8, 9], [], [], [12], [11, 12, 13], [0, 1, 2, 3, 4, 5, 6, 7, 8, 9, 10, 11, 12, 13, 14], [0, 1, 2, 3, 4, 5, 6, 7, 8, 9, 10, 11, 12, 13, 14, 15], [0, 1, 2, 3, 4, 5, 6, 7, 8, 9, 10, 11, 12, 13, 14, 15, 16], [0, 1, 2, 3, 4, 5, 6, 7, 8, 9, 10, 11, 12, 13, 14, 15, 16, 17], [0, 1, 2, 3, 4, 5, 6, 7, 8, 9, 10, 11, 12, 13, 14, 15, 16, 17], [], [0, 1, 2, 3, 4, 5, 6, 7, 8, 9, 10, 11, 12, 13, 14, 15, 16, 17, 18, 20], [0, 1, 2, 3, 4, 5, 6, 7, 8, 9, 10, 11, 12, 13, 14, 15, 16, 17, 18, 19, 20, 21]] [0, 1, 2, 3, 4, 5, 6, 7, 11, 12, 13, 14] [⟨[20], [], 8, [0, 1, 2, 11, 12, 13, 14], [9, 10, 15]⟩, ⟨[20], [], 16, [], [17, 18, 19]⟩, ⟨[20], [20], 21, [19], []⟩, ⟨[], [], 22, [], []⟩] (by kernel_rfl) (by kernel_rfl) (by kernel_rfl) ?_; refine rn F ?_))
  all_goals first | (exfalso; omega) | skip
  rw [hset]
  by_cases h20 : m < 20
  · rw [hdh m h20 z hxne] at c3
    have h20' : (m : Int) < 20 := by omega
    have F := @h20'
    refine rn F ?_
    repeat' (first
      | with_reducible exact ⟨⟩
      | refine vp F (c3) ?_)
    all_goals rfl
  have h20' : ¬ (m : Int) < 20 := by omega
  obtain ⟨j, j1, j2, j3, j4⟩ := hdo m (by omega) (by omega) z hxne
  rw [j2] at c3
  have hjl : (es.take j).length = j := by rw [List.length_take]; omega
  have hjl2 : (es.take (j + 1)).length = j + 1 := by rw [List.length_take]; omega
  have c4 := rbytes_v ⟨1, es.take j, 0⟩ (by dsimp only; omega)
  have c5 := rbytes_v ⟨1, es.take (j + 1), 0⟩ (by dsimp only; omega)
  have b4 : bytesL ⟨1, es.take j, 0⟩ = headL 1 ++ (es.take j).flatMap frE := bytes_take hv j
  have b5 : bytesL ⟨1, es.take (j + 1), 0⟩ = headL 1 ++ (es.take (j + 1)).flatMap frE := bytes_take hv (j + 1)
  have l4 : (bytesL ⟨1, es.take j, 0⟩).length = 20 + ((es.take j).flatMap frE).length := by rw [b4, List.length_append, hhl]
  have l5 : (bytesL ⟨1, es.take (j + 1), 0⟩).length = 20 + ((es.take (j + 1)).flatMap frE).length := by rw [b5, List.length_append, hhl]
  generalize bytesL ⟨1, es.take j, 0⟩ = B4 at *
  generalize bytesL ⟨1, es.take (j + 1), 0⟩ = B5 at *
  have c6 := rsameE_v (es.take j) (es.take j) (by omega)
  rw [sameE_self] at c6
  have s1 := slkE es 31 0 j ⟨Nat.zero_le _, by omega⟩
  have s2 := slkE es 31 0 (j + 1) ⟨Nat.zero_le _, by omega⟩
  rw [List.drop_zero] at s1 s2
  have r1 : ¬ (j : Int) ≥ es.length := by omega
  have t1 : ((j : Int) + 1).toNat = j + 1 := by omega
  have f1 : (B4.length : Int) ≤ m := by omega
  have f2 : (m : Int) < B5.length := by omega
  have F := (And.intro @h20' (And.intro @hjl (And.intro @s1 (And.intro @s2 (And.intro @r1 (And.intro @t1 (And.intro @f1 @f2)))))))
  refine rn F ?_
  repeat' (first
    | with_reducible exact ⟨⟩
    | refine vp F (c3) ?_
    | refine vp F (c4) ?_
    | refine vp F (c5) ?_
    | refine vp F (c6) ?_
    | (refine vspine (id := 14) [0, 1, 2, 3, 4, 5, 6, 7, 8, 9, 10, 11] [⟨[], [], 12, [0, 1, 2, 3, 4, 5, 6, 7, 8, 9, 10], []⟩, ⟨[], [], 13, [], []⟩] (by kernel_rfl) (by kernel_rfl) ?_; refine rn F ?_)
    | (refine vspine (id := 15) [0, 1, 2, 3, 4, 5, 6, 7, 8, 9, 10, 11, 12] [⟨[], [], 13, [0, 1, 2, 3, 4, 5, 6, 7, 8, 9, 10, 11], []⟩, ⟨[], [], 14, [], []⟩] (by kernel_rfl) (by kernel_rfl) ?_; refine rn F ?_)
    | (refine vspine (id := 16) [0, 1, 2, 3, 4, 5, 6, 7] [⟨[], [], 8, [0, 2, 3, 4, 5, 6], [9, 10, 11, 12, 13, 14, 15, 16, 17, 18, 19, 20]⟩, ⟨[], [], 21, [], []⟩] (by kernel_rfl) (by kernel_rfl) ?_; refine rn F ?_))
  all_goals first | rfl | skip
end
end Go.Proofs.YtipnkkooklhfgaaGreat
