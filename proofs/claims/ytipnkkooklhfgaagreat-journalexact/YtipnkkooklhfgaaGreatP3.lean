/-
  Contracts of functions of the program and of the statements, and plain laws. No condition.
-/
import Derived.Test.YtipnkkooklhfgaaGreatP2
import Derived.Test.YtipnkkooklhfgaaGreatV3
import Derived.Test.YtipnkkooklhfgaaGreatP1
import Derived.Test.YtipnkkooklhfgaaGreatV2
set_option linter.unusedSimpArgs false
set_option linter.unusedVariables false
set_option maxRecDepth 100000
set_option maxHeartbeats 8000000
namespace Go.Proofs.YtipnkkooklhfgaaGreat
open Go.V Go
attribute [local go_sem] iteLe
@[go_sem] def tiD (a : Tx × Int) : DV := .tup [.agg a.1.d, .int .i64 a.2]
@[go_sem] def ebD (a : E × Bool) : DV := .tup [.agg a.1.d, .bool a.2]
def txAt (l : List Tx) (a : Int) : Tx := l.getD (idT l a).toNat Tx0
def rollQ (k : Kn) (tx : Int) (a : Tx × Int) : Prop := a.1.l.length ≤ 100000 ∧ (a.2 = 0 → VK k ∧ 0 ≤ idT k.tx tx ∧ a.1 = txAt k.tx tx)
theorem rrolling_w (k : Kn) (h : k.sm) (tx : Int) : VCalls Tryz.prog 158 [.agg k.d, .int .i64 tx] [] (RetS tiD (rollQ k tx)) := by
  refine dk Tryz.func158 ?_
  have c1 := rkvalid_w k h
  obtain ⟨h1, h2, h3, h4, h5, h6⟩ := h
  have c2 := rfind_v k.tx (Nat.le_trans h4.1 (by decide)) tx
  have e0 : ∀ e, e ≠ 0 → rollQ k tx (Tx0, e) := fun e h => ⟨by simp [Tx0], fun h2 => absurd h2 h⟩
  rcases idT_cases k.tx tx with hn | ⟨i, hil, hid, _⟩
  · rw [hn] at c2
    (unfold Tryz.f158; refine rn trivial ?_)
    have F := trivial
    refine rn F ?_
    repeat' (first
      | with_reducible exact True.intro
      | (refine sB F ?_ ?_ <;> intro hZ)
      | (refine vc_S (c1) rfl ?_; rintro b -; refine rn F ?_)
      | refine vp F (c2) ?_)
    all_goals exact ⟨rfl, rfl, (Tx0, _), rfl, e0 _ (by decide)⟩
  rw [hid] at c2
  have hg := fzT_g k.tx i hil
  have ht : (k.tx.getD i Tx0).l.length ≤ 100000 := by rw [getD_eq _ _ hil]; exact (h4.2 _ (List.getElem_mem hil)).1
  have he : txAt k.tx tx = k.tx.getD i Tx0 := by unfold txAt; rw [hid]; rfl
  (unfold Tryz.f158; refine rn trivial ?_)
  have F := @hg
  refine rn F ?_
  repeat' (first
    | with_reducible exact True.intro
    | (refine sB F ?_ ?_ <;> intro hZ)
    | (refine vc_S (c1) rfl ?_; rintro b hb; refine rn F ?_)
    | refine vp F (c2) ?_)
  all_goals first
    | exact ⟨rfl, rfl, (k.tx.getD i Tx0, 0), rfl, ht, fun _ => ⟨hb (by assumption), by omega, he.symm⟩⟩
    | exact ⟨rfl, rfl, (Tx0, 15), rfl, e0 _ (by decide)⟩
    | exact ⟨rfl, rfl, (Tx0, 16), rfl, e0 _ (by decide)⟩
    | skip
def nextN (l : List Tx) (a : Int) : Int := (txAt l a).l.getD ((txAt l a).l.length - 1) 0
def nextE (l : List Tx) (g : Lg) (a : Int) : E := (getE g (nextN l a)).1
def nextQ (k : Kn) (tx : Int) (a : E × Bool) : Prop := a.2 = true → VK k ∧ a.1 = nextE k.tx k.lg tx ∧ (getE k.lg (nextN k.tx tx)).2 = 0
theorem rnext_w (k : Kn) (h : k.sm) (tx : Int) : VCalls Tryz.prog 160 [.agg k.d, .int .i64 tx] [] (RetS ebD (nextQ k tx)) := by
  refine dk Tryz.func160 ?_
  have c1 := rrolling_w k h tx
  obtain ⟨h1, h2, h3, h4, h5, h6⟩ := h
  have c2 := rget_e k.lg (by omega)
  have e0 : nextQ k tx (E0, false) := fun h => by cases h
  (unfold Tryz.f160; refine rn trivial ?_)
  refine vc_S c1 rfl ?_
  rintro ⟨t, e⟩ ⟨ht, hq⟩
  dsimp only at ht hq
  have hg := fun h : t.l.length - 1 < t.l.length => fzI_get t.l (t.l.length - 1) h
  have F := @hg
  refine rn F ?_
  repeat' (first
    | with_reducible exact True.intro
    | (refine sG F ?_ ?_ <;> intro hZ)
    | (refine sB F ?_ ?_ <;> intro hZ)
    | refine vp F (c2 _) ?_
    | (refine vspine (id := 2) [0, 1, 2, 3, 4, 5, 6, 7, 8, 9, 10, 11, 12, 13, 14, 15, 16, 17, 18, 19, 20] [] (by kernel_rfl) (by kernel_rfl) ?_; refine rn F ?_)
    | (refine vspine (id := 4) [0, 1, 2, 3, 4, 5, 6, 7, 8, 9] [⟨[14], [], 10, [0, 2, 3, 4, 5, 6, 7, 8], [11, 12, 13]⟩, ⟨[14], [14], 15, [13], []⟩, ⟨[], [], 16, [], []⟩] (by kernel_rfl) (by kernel_rfl) ?_; refine rn F ?_))
  all_goals first
    | exact ⟨rfl, rfl, (E0, false), rfl, e0⟩
    | skip
  obtain ⟨v, _, rfl⟩ := hq (by first | omega | simp_all)
  exact ⟨rfl, rfl, ((getE k.lg (nextN k.tx tx)).1, _), rfl, fun h => ⟨v, rfl, by simpa [nextN] using h⟩⟩
theorem rof_w (k : Kn) (h : k.sm) (t : Tx) (ht : t.l.length ≤ 100000) (pg sl : Int) : VCalls Tryz.prog 242 [.agg k.d, .agg t.d, .agg [.int .i64 pg, .int .i64 sl], .int .i64 t.l.length] [] (RetS ebD fun a => a.2 = true → a.1.c.pg = pg) := by
  refine dk Tryz.func242 ?_
  obtain ⟨h1, h2, h3, h4, h5, h6⟩ := h
  have c2 := rget_e k.lg (by omega)
  (unfold Tryz.f242; refine rn trivial ?_)
  refine vloopW (fun s : To t.l.length => ⟨50, 0, [(10, .int .i64 ((s.i : Int) - 1)), (8, .ptr 3 0), (6, .ptr 2 0), (5, .ptr 1 0), (4, .ptr 0 0)], [⟨72, true, k.d⟩, ⟨226, true, t.d⟩, ⟨207, true, [.int .i64 pg, .int .i64 sl]⟩, ⟨31, true, E0.d⟩]⟩) (fun s => s.i) ⟨t.l.length, Nat.le_refl _⟩ (gc [0, 1, 2, 3]) ?_
  rintro ⟨i, hi⟩
  dsimp only
  have hg := fun h : i - 1 < t.l.length => fzI_get t.l (i - 1) h
  have c3 := c2 (t.l.getD (i - 1) 0)
  generalize getE k.lg (t.l.getD (i - 1) 0) = g at *
  have F := @hg
  refine rn F ?_
  repeat' (first
    | with_reducible exact True.intro
    | (refine sG F ?_ ?_ <;> intro hZ)
    | (refine sB F ?_ ?_ <;> intro hZ)
    | refine vp F (c3) ?_
    | (refine vspine (id := 4) [0, 1, 2, 3, 4, 5, 6] [⟨[11], [], 7, [0, 2, 3, 4, 5], [8, 9, 10]⟩, ⟨[11], [11], 12, [10], []⟩, ⟨[], [], 13, [], []⟩] (by kernel_rfl) (by kernel_rfl) ?_; refine rn F ?_))
  all_goals first
    | exact ⟨rfl, rfl, (E0, false), rfl, fun h => by cases h⟩
    | exact ⟨rfl, rfl, (g.1, true), rfl, fun _ => by dsimp only; omega⟩
    | (refine ⟨⟨i - 1, by omega⟩, by dsimp only; omega, ?_⟩
       dsimp only
       rw [show ((i - 1 : Nat) : Int) - 1 = (i : Int) - 1 - 1 by omega]
       exact (gc [0, 1, 2, 3]))
    | skip
theorem rnextof_w (k : Kn) (h : k.sm) (tx pg sl : Int) : VCalls Tryz.prog 201 [.agg k.d, .int .i64 tx, .agg [.int .i64 pg, .int .i64 sl]] [] (RetS ebD fun a => a.2 = true → a.1.c.pg = pg) := by
  refine dk Tryz.func201 ?_
  have c1 := rrolling_w k h tx
  (unfold Tryz.f201; refine rn trivial ?_)
  refine vc_S c1 rfl ?_
  rintro ⟨t, e⟩ ⟨ht, hq⟩
  have c2 := rof_w k h t ht
  have F := trivial
  refine rn F ?_
  repeat' (first
    | with_reducible exact True.intro
    | (refine sG F ?_ ?_ <;> intro hZ)
    | (refine sB F ?_ ?_ <;> intro hZ)
    | (refine vc_S (c2 _ _) rfl ?_; rintro ⟨y, b⟩ hb; refine rn F ?_))
  all_goals first
    | exact ⟨rfl, rfl, (E0, false), rfl, fun h => by cases h⟩
    | exact ⟨rfl, rfl, (y, b), rfl, hb⟩
    | skip
def undoQ (k : Kn) (pg : Int) (a : Kn × Rs) : Prop := a.1.sm ∧ Ev k.lg a.1.lg ∧ (a.2.st = 3 → a.1 = k ∧ a.2.pg = pg ∧ idF k.pl.fs pg < 0) ∧ (a.2.st ≠ 3 → a.2.st ≠ 5 → k.lg.es.length < a.1.lg.es.length) ∧ (a.2.st = 5 → a.2.er ≠ 0)
theorem rundo_w (k : Kn) (h : k.sm) (hv : VK k) (t : Tx) (e : E) : VCalls Tryz.prog 161 [.agg k.d, .agg t.d, .agg e.d] [] (RetS krD (undoQ k e.c.pg)) := by
  refine dk Tryz.func161 ?_
  have h' := h
  obtain ⟨h1, h2, h3, h4, h5, h6⟩ := h
  have c1 := rpget_v k.pl (by omega) e.c.pg
  have hn := getS_no (a := e.c.pg) hv.2.2.2.1
  have c2 := rinv_v e.c
  generalize getS k.pl e.c.pg = g at *
  have c3 := rpapply_w g.1 ⟨e.c.pg, e.c.sl, e.c.a, e.c.b⟩
  have c4 := rset_w k h' ⟨0, 2, t.id, 0, 0, e.lsn, ⟨e.c.pg, e.c.sl, e.c.a, e.c.b⟩, []⟩ (.inr rfl)
  have hf : ∀ er, er ≠ 0 → undoQ k e.c.pg (k, failR er) := fun er hr => ⟨h', Ev.refl _, fun h => by simp [failR] at h, fun _ h => absurd rfl h, fun _ => hr⟩
  (unfold Tryz.f161; refine rn trivial ?_)
  have F := trivial
  refine rn F ?_
  repeat' (first
    | with_reducible exact True.intro
    | (refine sB F ?_ ?_ <;> intro hZ)
    | refine vp F (c1) ?_
    | refine vp F (c2) ?_
    | (refine vc_S (c3) rfl ?_; rintro ⟨p1, e1⟩ -; refine rn F ?_)
    | (refine vc_S (c4) rfl ?_; rintro ⟨k1, e2⟩ hq; refine rn F ?_)
    | refine vp F (failed_v _) ?_
    | (refine vc_S (rnextof_w k1 hq.1 _ _ _) rfl ?_; rintro ⟨y, b⟩ -; refine rn F ?_)
    | (refine vc_S (rdrop_w k1.lk (Nat.le_trans hq.1.2.2.1 (by decide)) _ _ _) rfl ?_; rintro u hu; refine rn F ?_)
    | (refine vspine (id := 3) [0, 1, 2, 3, 4] [⟨[], [], 5, [1, 2, 3, 4], []⟩, ⟨[], [], 6, [], []⟩] (by kernel_rfl) (by kernel_rfl) ?_; refine rn F ?_)
    | (refine vspine (id := 7) [0, 1] [⟨[], [], 2, [0], []⟩, ⟨[], [], 3, [1], []⟩, ⟨[], [], 4, [], []⟩] (by kernel_rfl) (by kernel_rfl) ?_; refine rn F ?_)
    | (refine vspine (id := 10) [0, 1] [⟨[], [], 2, [0], []⟩, ⟨[], [], 3, [1], []⟩, ⟨[], [], 4, [], []⟩] (by kernel_rfl) (by kernel_rfl) ?_; refine rn F ?_)
    | (refine vspine (id := 16) [0, 1, 2, 3] [⟨[], [], 4, [1, 2, 3], []⟩, ⟨[], [], 5, [], []⟩] (by kernel_rfl) (by kernel_rfl) ?_; refine rn F ?_))
  all_goals first
    | exact ⟨rfl, rfl, (k, ⟨3, 0, e.c.pg, Ce0, 0⟩), rfl, h', Ev.refl _, fun _ => ⟨rfl, rfl, hn (by first | assumption | simp_all)⟩, fun h => absurd rfl h, fun h => by simp at h⟩
    | exact ⟨rfl, rfl, (k, failR _), rfl, hf _ (by assumption)⟩
    | (have q := hq.2.1 (by dsimp only; omega)
       dsimp only at q
       first
         | exact ⟨rfl, rfl, (k1, ⟨1, t.id, 0, Ce0, 0⟩), rfl, hq.1, q.1, fun h => by simp at h, fun _ _ => by dsimp only; omega, fun h => by simp at h⟩
         | (obtain ⟨r1, r2, r3, r4, r5, r6⟩ := hq.1
            exact ⟨rfl, rfl, (⟨k1.pg, k1.nx, k1.lg, k1.pl, u, k1.tx, k1.ix, k1.la⟩, ⟨1, t.id, 0, Ce0, 0⟩), rfl, ⟨r1, r2, Nat.le_trans hu r3, r4, r5, r6⟩, q.1, fun h => by simp at h, fun _ _ => by dsimp only; omega, fun h => by simp at h⟩))
    | skip
end Go.Proofs.YtipnkkooklhfgaaGreat

namespace Go.Proofs.YtipnkkooklhfgaaGreat
open Go.V Go
attribute [local go_sem] iteLe
def stepQ (k : Kn) (tx : Int) (a : Kn × Rs) : Prop := a.1.sm ∧ Ev k.lg a.1.lg ∧ (a.2.st = 3 → VK k ∧ a.1 = k ∧ a.2.pg = (nextE k.tx k.lg tx).c.pg ∧ (getE k.lg (nextN k.tx tx)).2 = 0 ∧ idF k.pl.fs a.2.pg < 0) ∧ (a.2.st ≠ 3 → a.2.st ≠ 5 → k.lg.es.length < a.1.lg.es.length) ∧ (a.2.st = 5 → a.2.er ≠ 0)
theorem rstep_w (k : Kn) (h : k.sm) (tx : Int) : VCalls Tryz.prog 132 [.agg k.d, .int .i64 tx] [] (RetS krD (stepQ k tx)) := by
  refine dk Tryz.func132 ?_
  have c1 := rrolling_w k h tx
  have c2 := rkadd_w k h ⟨0, 5, tx, 0, 0, 0, Ch0, []⟩
  have c3 := rnext_w k h tx
  have hf : ∀ er, er ≠ 0 → stepQ k tx (k, failR er) := fun er hr => ⟨h, Ev.refl _, fun h => by simp [failR] at h, fun _ h => absurd rfl h, fun _ => hr⟩
  (unfold Tryz.f132; refine rn trivial ?_)
  refine vc_S c1 rfl ?_
  rintro ⟨t, e⟩ ⟨ht, hq0⟩
  by_cases he : e = 0
  rotate_left
  · skip
    have F := @he
    refine rn F ?_
    repeat' (first
      | with_reducible exact True.intro
      | refine vp F (failed_v _) ?_
      | (refine vspine (id := 3) [0, 1] [⟨[], [], 2, [0], []⟩, ⟨[], [], 3, [1], []⟩, ⟨[], [], 4, [], []⟩] (by kernel_rfl) (by kernel_rfl) ?_; refine rn F ?_))
    exact ⟨rfl, rfl, (k, failR e), rfl, hf _ he⟩
  obtain ⟨hv, hi, rfl⟩ := hq0 he
  subst he
  generalize txAt k.tx tx = t at *
  have F := trivial
  refine rn F ?_
  repeat' (first
    | with_reducible exact True.intro
    | (refine sG F ?_ ?_ <;> intro hZ)
    | (refine sB F ?_ ?_ <;> intro hZ)
    | (refine vc_S (c2) rfl ?_; rintro ⟨k1, n1, e1⟩ hq; refine rn F ?_)
    | refine vp F (failed_v _) ?_
    | (refine vc_S (rrelease_w k1.lk (Nat.le_trans hq.1.2.2.1 (by decide)) tx) rfl ?_; rintro u hu; refine rn F ?_)
    | (refine vc_S (c3) rfl ?_; rintro ⟨y, ok⟩ hy; refine rn F ?_)
    | (refine vc_S (rundo_w k h hv ⟨_, _, _, _, _, _⟩ y) rfl ?_; rintro ⟨k2, r2⟩ hq2; refine rn F ?_)
    | (refine vspine (id := 7) [0, 1] [⟨[], [], 2, [0], []⟩, ⟨[], [], 3, [1], []⟩, ⟨[], [], 4, [], []⟩] (by kernel_rfl) (by kernel_rfl) ?_; refine rn F ?_)
    | (refine vspine (id := 12) [0] [⟨[], [], 1, [0], []⟩, ⟨[], [], 2, [], []⟩, ⟨[], [], 3, [], []⟩] (by kernel_rfl) (by kernel_rfl) ?_; refine rn F ?_))
  all_goals first
    | exact ⟨rfl, rfl, (k, failR _), rfl, hf _ (by first | assumption | decide)⟩
    | (obtain ⟨q1, q2, q3, q4, q5, q6, q7⟩ := addQ_ev hq (by omega)
       obtain ⟨r1, r2, r3, r4, r5, r6⟩ := hq.1
       exact ⟨rfl, rfl, (⟨k1.pg, k1.nx, k1.lg, k1.pl, u, k1.tx, k1.ix, k1.la⟩, ⟨1, 0, 0, Ce0, 0⟩), rfl, ⟨r1, r2, Nat.le_trans hu r3, r4, r5, r6⟩, q1, fun h => by simp at h, fun _ _ => by dsimp only; omega, fun h => by simp at h⟩)
    | (obtain ⟨y1, y2, y3⟩ := hy (by first | assumption | simp_all)
       dsimp only at y2
       exact ⟨rfl, rfl, (k2, r2), rfl, hq2.1, hq2.2.1, fun h => ⟨hv, (hq2.2.2.1 h).1, by rw [← y2]; exact (hq2.2.2.1 h).2.1, y3, by rw [(hq2.2.2.1 h).2.1]; exact (hq2.2.2.1 h).2.2⟩, hq2.2.2.2.1, hq2.2.2.2.2⟩)
    | skip
def cellQ (k : Kn) (pg : Int) (a : Kn × Rs) : Prop := a.1.sm ∧ Ev k.lg a.1.lg ∧ (a.2.st = 3 → a.1 = k ∧ a.2.pg = pg ∧ idF k.pl.fs pg < 0) ∧ (a.2.st ≠ 3 → a.2.st ≠ 5 → a.2.tx ≠ 0 → k.lg.es.length < a.1.lg.es.length)
theorem rcell_w (k : Kn) (h : k.sm) (tx pg sl : Int) : VCalls Tryz.prog 169 [.agg k.d, .int .i64 tx, .agg [.int .i64 pg, .int .i64 sl]] [] (RetS krD (cellQ k pg)) := by
  refine dk Tryz.func169 ?_
  have c1 := rrolling_w k h tx
  have c3 := rnextof_w k h tx pg sl
  have hf : ∀ er, cellQ k pg (k, failR er) := fun er => ⟨h, Ev.refl _, fun h => by simp [failR] at h, fun _ h => absurd rfl h⟩
  (unfold Tryz.f169; refine rn trivial ?_)
  refine vc_S c1 rfl ?_
  rintro ⟨t, e⟩ ⟨ht, hq0⟩
  by_cases he : e = 0
  rotate_left
  · skip
    have F := @he
    refine rn F ?_
    repeat' (first
      | with_reducible exact True.intro
      | refine vp F (failed_v _) ?_
      | (refine vspine (id := 3) [0, 1] [⟨[], [], 2, [0], []⟩, ⟨[], [], 3, [1], []⟩, ⟨[], [], 4, [], []⟩] (by kernel_rfl) (by kernel_rfl) ?_; refine rn F ?_))
    exact ⟨rfl, rfl, (k, failR e), rfl, hf _⟩
  obtain ⟨hv, hi, rfl⟩ := hq0 he
  subst he
  generalize txAt k.tx tx = t at *
  have F := trivial
  refine rn F ?_
  repeat' (first
    | with_reducible exact True.intro
    | (refine sB F ?_ ?_ <;> intro hZ)
    | refine vp F (failed_v _) ?_
    | (refine vc_S (c3) rfl ?_; rintro ⟨y, ok⟩ hy; refine rn F ?_)
    | (refine vc_S (rundo_w k h hv ⟨_, _, _, _, _, _⟩ y) rfl ?_; rintro ⟨k2, r2⟩ hq2; refine rn F ?_)
    | (refine vspine (id := 5) [0] [⟨[], [], 1, [0], []⟩, ⟨[], [], 2, [], []⟩, ⟨[], [], 3, [], []⟩] (by kernel_rfl) (by kernel_rfl) ?_; refine rn F ?_))
  all_goals first
    | exact ⟨rfl, rfl, (k, failR _), rfl, hf _⟩
    | exact ⟨rfl, rfl, (k, ⟨1, 0, 0, Ce0, 0⟩), rfl, h, Ev.refl _, fun h => by simp at h, fun _ _ h => absurd rfl h⟩
    | (have y2 := hy (by first | assumption | simp_all)
       dsimp only at y2
       rw [y2] at hq2
       exact ⟨rfl, rfl, (k2, r2), rfl, hq2.1, hq2.2.1, hq2.2.2.1, fun h1 h2 _ => hq2.2.2.2.1 h1 h2⟩)
    | skip
end Go.Proofs.YtipnkkooklhfgaaGreat

namespace Go.Proofs.YtipnkkooklhfgaaGreat
open Go.V Go
attribute [local go_sem] iteLe
theorem Ev.get {x y : Lg} (h : Ev x y) {n : Int} (h0 : (getE x n).2 = 0) : getE y n = getE x n := by
  obtain ⟨hv, h1, h2, _, _⟩ := getE_ok h0
  have hf := h.f
  obtain ⟨t, ht⟩ := h.pre
  have hv2 := h.ok hv
  have hl : y.es.length = x.es.length + t.length := by rw [← ht, List.length_append]
  have hd := lgB_hd hv
  simp only [Lg.hd] at hd
  unfold getE
  rw [if_neg (by rw [hv2]; decide), if_neg (by simp only [Lg.end_] at *; omega), if_neg (by rw [hv]; decide), if_neg (by omega)]
  rw [hf, ← ht]
  congr 1
  simp only [Lg.end_] at h2
  rw [List.getD_eq_getElem?_getD, List.getD_eq_getElem?_getD, List.getElem?_append_left (by omega)]
theorem rrollS_w (s : Sv) (hs : s.sm) (tx : Int) : VCalls Tryz.prog 165 [.agg s.d, .int .i64 tx] [] (RetS boD fun _ => True) := by
  refine dd Tryz.func165 ?_
  have h4 := hs.1.2.2.2.1
  have c2 := rfind_v s.k.tx (Nat.le_trans h4.1 (by decide)) tx
  rcases idT_cases s.k.tx tx with hn | ⟨i, hil, hid, _⟩
  · rw [hn] at c2
    (unfold Tryz.f165; refine rn trivial ?_)
    have F := trivial
    refine rn F ?_
    repeat' (first
      | with_reducible exact True.intro
      | refine vp F (c2) ?_)
    all_goals exact ⟨rfl, rfl, _, rfl, trivial⟩
  rw [hid] at c2
  have hg := fzT_g s.k.tx i hil
  (unfold Tryz.f165; refine rn trivial ?_)
  have F := @hg
  refine rn F ?_
  repeat' (first
    | with_reducible exact True.intro
    | refine vp F (c2) ?_)
  all_goals exact ⟨rfl, rfl, _, rfl, trivial⟩
def inP (l : List Fm) (a : Int) : Nat := if 0 ≤ idF l a then 0 else 1
theorem inP_le (l : List Fm) (a : Int) : inP l a ≤ 1 := by unfold inP; split <;> omega
def rbM (tx : Int) (s : Sv) : Nat := 2 * (4096 - s.k.lg.es.length) + inP s.k.pl.fs (nextE s.k.tx s.k.lg tx).c.pg
theorem rbM_more {tx : Int} {s t : Sv} (h : s.k.lg.es.length < t.k.lg.es.length) (hl : t.k.lg.es.length ≤ 4096) : rbM tx t < rbM tx s := by
  have := inP_le t.k.pl.fs (nextE t.k.tx t.k.lg tx).c.pg
  unfold rbM; omega
theorem rbM_page {tx : Int} {s t : Sv} (ev : Ev s.k.lg t.k.lg) (hx : t.k.tx = s.k.tx) (h0 : (getE s.k.lg (nextN s.k.tx tx)).2 = 0) (h1 : idF s.k.pl.fs (nextE s.k.tx s.k.lg tx).c.pg < 0) (h2 : 0 ≤ idF t.k.pl.fs (nextE s.k.tx s.k.lg tx).c.pg) : rbM tx t < rbM tx s := by
  have hl := ev.len
  have e : nextE t.k.tx t.k.lg tx = nextE s.k.tx s.k.lg tx := by unfold nextE; rw [hx, ev.get h0]
  unfold rbM
  rw [e]
  unfold inP
  rw [if_pos h2, if_neg (by omega)]
  omega
def evQ (s : Sv) (a : Sv × Int) : Prop := a.1.sm ∧ (a.2 = 0 → Ev s.k.lg a.1.k.lg)
structure Re (s0 : Sv) where
  s : Sv
  sm : s.sm
  ev : Ev s0.k.lg s.k.lg
theorem rrollback_w (s : Sv) (hs : s.sm) (tx : Int) : VCalls Tryz.prog 166 [.agg s.d, .int .i64 tx] [] (RetS svD (evQ s)) := by
  refine dk Tryz.func166 ?_
  have c1 := rkvalid_w s.k hs.1
  have c2 := rfind_v s.k.tx (Nat.le_trans hs.1.2.2.2.1.1 (by decide)) tx
  have e0 : ∀ e, e ≠ 0 → evQ s (Sv0, e) := fun e h => ⟨Sv0_sm, fun h2 => absurd h2 h⟩
  (unfold Tryz.f166; refine rn trivial ?_)
  have F := trivial
  refine rn F ?_
  repeat' (first
    | with_reducible exact True.intro
    | (refine sB F ?_ ?_ <;> intro hZ)
    | (refine vc_S (c1) rfl ?_; rintro b -; refine rn F ?_)
    | refine vp F (c2) ?_)
  all_goals first
    | exact ⟨rfl, rfl, (Sv0, 15), rfl, e0 _ (by decide)⟩
    | exact ⟨rfl, rfl, (Sv0, 16), rfl, e0 _ (by decide)⟩
    | skip
  refine vloopW (fun r : Re s => ⟨56, 0, [(4, .ptr 1 0), (2, .ptr 0 0), (1, .int .i64 tx)], [⟨102, true, r.s.d⟩, ⟨102, true, Zv⟩]⟩) (fun r => rbM tx r.s) ⟨s, hs, Ev.refl _⟩ (gc [0, 1]) ?_
  rintro ⟨s1, sm, ev⟩
  dsimp only
  unfold Zv
  have d1 := rrollS_w s1 sm tx
  have d2 := rstep_w s1.k sm.1 tx
  have d3 := fun n => rfetch_w s1 sm n
  have F := trivial
  refine rn F ?_
  repeat' (first
    | with_reducible exact True.intro
    | (refine sB F ?_ ?_ <;> intro hZ)
    | (refine vc_S (d1) rfl ?_; rintro b2 -; refine rn F ?_)
    | (refine vc_S (d2) rfl ?_; rintro ⟨k1, r1⟩ hq; refine rn F ?_)
    | (refine vc_S (d3 _) rfl ?_; rintro ⟨s2, e2⟩ hq2; refine rn F ?_)
    | (refine vspine (id := 10) [0, 1, 2] [⟨[], [], 3, [1, 2], []⟩, ⟨[], [], 4, [], []⟩] (by kernel_rfl) (by kernel_rfl) ?_; refine rn F ?_))
  all_goals first
    | exact ⟨rfl, rfl, (s1, 0), rfl, sm, fun _ => ev⟩
    | exact ⟨rfl, rfl, (Sv0, e2), rfl, e0 _ (by assumption)⟩
    | exact ⟨rfl, rfl, (Sv0, r1.er), rfl, e0 _ (hq.2.2.2.2 (by assumption))⟩
    | skip
  · obtain ⟨v, _, g1, g2, g3⟩ := hq.2.2.1 (by first | assumption | omega)
    have q2 := hq2.2 (by dsimp only; omega)
    dsimp only at g1 g3 q2
    rw [g1] at g3 q2
    exact ⟨⟨s2, hq2.1, ev.trans q2.1⟩, rbM_page q2.1 q2.2.1 g2 g3 q2.2.2, (gc [0, 1])⟩
  · have q := hq.2.2.2.1 (by dsimp only; omega) (by dsimp only; omega)
    exact ⟨⟨⟨k1, s1.v⟩, ⟨hq.1, sm.2⟩, ev.trans hq.2.1⟩, rbM_more q hq.1.1, (gc [0, 1])⟩
end Go.Proofs.YtipnkkooklhfgaaGreat

namespace Go.Proofs.YtipnkkooklhfgaaGreat
open Go.V Go
attribute [local go_sem] iteLe
@[go_sem] def srD (a : Sv × Rs) : DV := .tup [.agg a.1.d, .agg a.2.d]
def sdoQ (s : Sv) (a : Sv × Rs) : Prop := a.1.sm ∧ Ev s.k.lg a.1.k.lg
def Zr : List DV := [.int .i64 0, .int .i64 0, .int .i64 0, .bool false, .pv (.str []), .int .i64 0]
theorem rsdo_w (s : Sv) (hs : s.sm) (tx : Int) (a : Ac) : VCalls Tryz.prog 134 [.agg s.d, .int .i64 tx, .agg a.d] [] (RetS srD (sdoQ s)) := by
  refine dk Tryz.func134 ?_
  (unfold Tryz.f134; refine rn trivial ?_)
  refine vloopW (fun r : Re s => ⟨79, 0, [(7, .ptr 3 0), (6, .ptr 2 0), (5, .ptr 1 0), (3, .ptr 0 0), (1, .int .i64 tx)], [⟨102, true, r.s.d⟩, ⟨159, true, a.d⟩, ⟨102, true, Zv⟩, ⟨156, true, Zr⟩]⟩) (fun r => inP r.s.k.pl.fs a.pg) ⟨s, hs, Ev.refl _⟩ (gc [0, 1, 2, 3]) ?_
  rintro ⟨s1, sm, ev⟩
  dsimp only
  unfold Zv Zr
  have d1 := rkdo_w s1.k sm.1 tx a
  have d2 := fun (k : Kn) (hk : k.sm) => rfetch_w ⟨k, s1.v⟩ ⟨hk, sm.2⟩
  have d3 := fun (k : Kn) (hk : k.sm) => rrollS_w ⟨k, s1.v⟩ ⟨hk, sm.2⟩ tx
  have d4 := fun (k : Kn) (hk : k.sm) => rrollback_w ⟨k, s1.v⟩ ⟨hk, sm.2⟩ tx
  have F := trivial
  refine rn F ?_
  repeat' (first
    | with_reducible exact True.intro
    | (refine sG F ?_ ?_ <;> intro hZ)
    | (refine sB F ?_ ?_ <;> intro hZ)
    | (refine vc_S (d1) rfl ?_; rintro ⟨k1, r1⟩ hq; refine rn F ?_)
    | (refine vc_S (d2 k1 hq.1 _) rfl ?_; rintro ⟨s2, e2⟩ hq2; refine rn F ?_)
    | refine vp F (failed_v _) ?_
    | (refine vc_S (d3 k1 hq.1) rfl ?_; rintro b -; refine rn F ?_)
    | (refine vc_S (d4 k1 hq.1) rfl ?_; rintro ⟨s3, e3⟩ hq3; refine rn F ?_)
    | (refine vspine (id := 6) [0, 1] [⟨[], [], 2, [0], []⟩, ⟨[], [], 3, [1], []⟩, ⟨[], [], 4, [], []⟩] (by kernel_rfl) (by kernel_rfl) ?_; refine rn F ?_)
    | (refine vspine (id := 12) [0, 1] [⟨[], [], 2, [0], []⟩, ⟨[], [], 3, [1], []⟩, ⟨[], [], 4, [], []⟩] (by kernel_rfl) (by kernel_rfl) ?_; refine rn F ?_)
    | (refine vspine (id := 14) [0, 1] [⟨[], [], 2, [1], []⟩, ⟨[], [], 3, [], []⟩] (by kernel_rfl) (by kernel_rfl) ?_; refine rn F ?_))
  all_goals first
    | exact ⟨rfl, rfl, (⟨k1, s1.v⟩, failR _), rfl, ⟨hq.1, sm.2⟩, ev.trans hq.2.1⟩
    | exact ⟨rfl, rfl, (⟨k1, s1.v⟩, r1), rfl, ⟨hq.1, sm.2⟩, ev.trans hq.2.1⟩
    | (have q3 := hq3.2 (by dsimp only; omega)
       exact ⟨rfl, rfl, (s3, r1), rfl, hq3.1, (ev.trans hq.2.1).trans q3⟩)
    | skip
  obtain ⟨g1, g2, g3⟩ := hq.2.2 (by first | assumption | (dsimp only; omega))
  have q2 := hq2.2 (by dsimp only; omega)
  dsimp only at g1 g2 g3 q2
  rw [g2] at q2
  refine ⟨⟨s2, hq2.1, (ev.trans hq.2.1).trans q2.1⟩, ?_, (gc [0, 1, 2, 3])⟩
  unfold inP
  dsimp only
  rw [if_pos q2.2.2, if_neg (by omega)]
  omega
@[go_sem] def siiD (a : Sv × Int × Int) : DV := .tup [.agg a.1.d, .int .i64 a.2.1, .int .i64 a.2.2]
theorem rsbegin_w (s : Sv) (hs : s.sm) : VCalls Tryz.prog 111 [.agg s.d] [] (RetS siiD fun a => a.1.sm ∧ (a.2.2 = 0 → Ev s.k.lg a.1.k.lg)) := by
  refine dk Tryz.func111 ?_
  have c1 := rkbegin_w s.k hs.1
  (unfold Tryz.f111; refine rn trivial ?_)
  have F := trivial
  refine rn F ?_
  repeat' (first
    | with_reducible exact True.intro
    | (refine sB F ?_ ?_ <;> intro hZ)
    | (refine vc_S (c1) rfl ?_; rintro ⟨k1, n1, e1⟩ hq; refine rn F ?_))
  all_goals first
    | exact ⟨rfl, rfl, (Sv0, 0, e1), rfl, Sv0_sm, fun h => absurd h (by assumption)⟩
    | exact ⟨rfl, rfl, (⟨k1, s.v⟩, n1, 0), rfl, ⟨hq.1, hs.2⟩, fun _ => by have q := (hq.2 (by dsimp only; omega)).2.2; dsimp only at q; subst q; exact Ev.refl _⟩
    | skip
theorem mkR : ∀ n : Nat, V.mk [.pv (.lit (.int .i64 0)), .pv (.lit (.int .i64 0)), .pv (.lit (.int .i64 0))] n = cells encR (List.replicate n Rw0)
  | 0 => rfl
  | n + 1 => by
    show _ ++ V.mk _ n = _
    rw [mkR n, List.replicate_succ]; rfl
theorem rixnew_w (n : Int) : VCalls Tryz.prog 109 [.int .i64 n] [] (RetS (fun a : List Rw × Int => .tup [.agg [.pv (.sl (fz encR a.1))], .int .i64 a.2]) fun a => a.1.length ≤ 64) := by
  refine dk Tryz.func109 ?_
  (unfold Tryz.f109; refine rn trivial ?_)
  have F := trivial
  refine rn F ?_
  repeat' (first
    | with_reducible exact True.intro
    | (refine sG F ?_ ?_ <;> intro hZ)
    | (refine sB F ?_ ?_ <;> intro hZ))
  all_goals first
    | exact ⟨rfl, rfl, ([], 1), rfl, Nat.zero_le _⟩
    | skip
  obtain ⟨m, rfl⟩ : ∃ m : Nat, n = m := ⟨n.toNat, by omega⟩
  have hc : ((0 : Int) ≤ (m : Int) ∧ (m : Int) ≤ (m : Int) ∧ ((24 : Nat) : Int) * (m : Int) ≤ 281474976710656 ∧ (m : Int) ≤ 9223372036854775807) = True := eq_true ⟨by omega, by omega, by omega, by omega⟩
  have hmk := mkR m
  have hlr : (List.replicate m Rw0).length = m := List.length_replicate
  refine rn (And.intro @hc (And.intro @hmk @hlr)) ?_
  exact ⟨rfl, rfl, (List.replicate m Rw0, 0), rfl, by dsimp only; rw [hlr]; omega⟩
end Go.Proofs.YtipnkkooklhfgaaGreat

namespace Go.Proofs.YtipnkkooklhfgaaGreat
open Go.V Go
attribute [local go_sem] iteLe
def Lg1 : Lg := ⟨1, [], 0⟩
theorem Lg1_ok : lgB Lg1 = true := by decide
theorem rlnew_v : VCalls Tryz.prog 30 [] [] (Ret (.agg Lg1.c)) := by
  refine dk Tryz.func30 ?_
  (unfold Tryz.f30; refine rn trivial ?_)
  rfl
theorem plNew_fs (n : Int) : (plNew n).1.fs = [] := by unfold plNew; split <;> rfl
theorem rsflush_w (s : Sv) (hs : s.sm) (n : Int) : VCalls Tryz.prog 114 [.agg s.d, .int .i64 n] [] (RetS svD (evQ s)) := by
  refine dk Tryz.func114 ?_
  have c1 := rflush_w s.k hs.1 n
  have c2 := rpfind_v s.k.pl (Nat.le_trans hs.1.2.1 (by decide)) n
  have c3 := fun k hk x => rwrite_w s hs.2 k hk x
  have e0 : ∀ e, e ≠ 0 → evQ s (Sv0, e) := fun e h => ⟨Sv0_sm, fun h2 => absurd h2 h⟩
  (unfold Tryz.f114; refine rn trivial ?_)
  refine vc_S c1 rfl ?_
  rintro ⟨k1, x, e⟩ hq
  by_cases he : e = 0
  rotate_left
  · skip
    have F := @he
    refine rn F ?_
    exact ⟨rfl, rfl, (Sv0, e), rfl, e0 _ he⟩
  have q := hq.2 he
  subst he
  rcases findS_cases s.k.pl n with hn | ⟨_, i, hi, hfi, _⟩
  · have := q.2; omega
  rw [hfi] at c2
  have hg := fzF_at s.k.pl.fs i hi
  generalize s.k.pl.fs.getD i Fm0 = f at *
  have F := @hg
  refine rn F ?_
  repeat' (first
    | with_reducible exact True.intro
    | (refine sB F ?_ ?_ <;> intro hZ)
    | refine vp F (c2) ?_
    | (refine vc_S (c3 k1 hq.1 x) rfl ?_; rintro ⟨s2, e2⟩ hq2; refine rn F ?_)
    | (refine vspine (id := 4) [0, 1, 2, 3, 4, 5, 6, 7] [⟨[], [], 8, [0, 1, 2, 3, 4, 5], [9, 10, 11, 12]⟩] (by kernel_rfl) (by kernel_rfl) ?_; refine rn F ?_))
  all_goals first
    | exact ⟨rfl, rfl, (s, 0), rfl, hs, fun _ => Ev.refl _⟩
    | exact ⟨rfl, rfl, (s2, e2), rfl, hq2.1, fun h => q.1.trans (hq2.2 h).1⟩
    | skip
end Go.Proofs.YtipnkkooklhfgaaGreat

namespace Go.Proofs.YtipnkkooklhfgaaGreat
open Go.V Go
theorem jnew_v : VCalls Tryz.prog 29 [] [] (Ret (.agg Lg1.c)) := by
  refine dk Tryz.func29 ?_
  (unfold Tryz.f29; refine rn trivial ?_)
  rfl
theorem jlast_v (x : Lg) (hx : x.es.length ≤ 9223372036854775807) : VCalls Tryz.prog 16 [.agg x.c] [] (Ret (.int .i64 (lastS x))) := by
  refine dd Tryz.func16 ?_
  have c1 := jvalid_v x hx
  have c2 := jend_v x
  have hh := @lgB_hd x
  have e : lastS x = if lgB x = true then x.end_ else 0 := rfl
  simp only [Lg.hd] at hh
  rw [e]
  (unfold Tryz.f16; refine rn trivial ?_)
  cases hv : lgB x
  · rw [hv] at c1
    have F := trivial
    refine rn F ?_
    repeat' (first
      | with_reducible exact True.intro
      | refine vp F (c1) ?_)
    all_goals rfl
  · rw [hv] at c1
    replace hh := hh hv
    have F := trivial
    refine rn F ?_
    repeat' (first
      | with_reducible exact True.intro
      | refine vp F (c1) ?_
      | refine vp F (c2 (by omega) (by omega)) ?_)
    all_goals rfl
def eX : E := ⟨0, 8, 0, 0, 0, 0, Ch0, [120]⟩
def LgX : Lg := ⟨1, [⟨1, 8, 0, 0, 0, 0, Ch0, [120]⟩], 0⟩
theorem awake6_v : VCalls Tryz.prog 9 [] [] (Ret (.bool true)) := by
  refine dd Tryz.func9 ?_
  have c1 := append_v Lg1 (by decide) eX
  rw [show appS Lg1 eX = (LgX, 1, 0) from rfl] at c1
  have c2 := jlast_v LgX (by decide)
  rw [show lastS LgX = 1 by decide] at c2
  have c3 := jbytes_v Lg1 (by decide)
  have hl : (bytesL Lg1).length = 20 := by
    unfold bytesL
    rw [if_pos Lg1_ok, List.length_append, headL_len']; rfl
  generalize bytesL Lg1 = s at *
  have c4 := jnew_v
  (unfold Tryz.f9; refine rn trivial ?_)
  have F := @hl
  refine rn F ?_
  repeat' (first
    | with_reducible exact True.intro
    | refine vp F (c4) ?_
    | refine vp F (c1) ?_
    | refine vp F (c2) ?_
    | refine vp F (c3) ?_)
  all_goals first | rfl | skip
end Go.Proofs.YtipnkkooklhfgaaGreat

namespace Go.Proofs.YtipnkkooklhfgaaGreat
open Go.V Go
attribute [local go_sem] cb cc
theorem byteOf (b : Int) (hb : 0 ≤ b ∧ b ≤ 255) : ∃ y : UInt8, b = (y.toNat : Int) := ⟨UInt8.ofNat b.toNat, by simp only [UInt8.toNat_ofNat']; omega⟩
theorem make_ite0 {α : Type} {n : Nat} {A B : α} (hn : n ≤ 1000000000) : (if 0 ≤ (n : Int) ∧ ((1 : Nat) : Int) * n ≤ 281474976710656 ∧ (n : Int) ≤ 9223372036854775807 then A else B) = A :=
  if_pos ⟨by omega, by omega, by omega⟩
abbrev Dx (n : Nat) : DV → Prop := fun r => ∃ t : List UInt8, r = .pv (.str t) ∧ t.length ≤ n
structure DSt (n : Nat) where
  c : C
  l : List UInt8
  hl : l.length ≤ n
theorem data_v (c : C) : VCalls Tryz.prog 47 [.ptr 0 0] [cb c] (CX (Dx 13)) := by
  refine dd Tryz.func47 ?_
  (unfold Tryz.f47; refine rn trivial ?_)
  refine vc_cx (k := 0) (c := c) (next_v c 5 (by omega) (by omega)) rfl rfl ?_
  rintro _ c1 ⟨z, rfl, hz⟩
  refine rn trivial ?_
  refine vc_cx (k := 0) (c := c1) (next_v c1 6 (by omega) (by omega)) rfl rfl ?_
  rintro _ c2 ⟨z2, rfl, hz2⟩
  have hcw := fun (hp : Heap) (k o n : Nat) => conv_bts (hp := hp) (k := k) (off := o) (len := n) btsC
  have mk := fun (n : Nat) (h : n ≤ 1000000000) (A B : Option (DV × Heap)) => make_ite0 (n := n) (A := A) (B := B) h
  have F := trivial
  refine rn F ?_
  repeat' (first
    | with_reducible exact True.intro
    | (refine sB F ?_ ?_ <;> intro hZ))
  case' refine_1 =>
    refine vc_cx (k := 0) (c := c2) (next_v c2 14 (by omega) (by omega)) rfl rfl ?_
    rintro _ c3 ⟨n, rfl, hn⟩
  case' refine_2 =>
    obtain ⟨n, rfl, hn⟩ : ∃ n : Nat, n = z ∧ n < 14 := ⟨z, rfl, by omega⟩
    obtain ⟨c3, rfl⟩ : ∃ c3, c3 = c2 := ⟨c2, rfl⟩
  all_goals
    have hm := fun A B => mk n (by omega) A B
    have hr : List.replicate 0 (0 : UInt8) = [] := rfl
    refine rn (And.intro @hm @hr) ?_
    refine vloopW (fun i : DSt n => ⟨29, 1, [(5, .int .i64 i.l.length), (3, .int .i64 n), (4, .own 1 1 0 i.l.length), (0, .ptr 0 0)], [cb i.c, ⟨5, true, cells encU i.l⟩]⟩) (fun i => n - i.l.length) ⟨c3, [], Nat.zero_le _⟩ (gc [0, 1]) ?_
    rintro ⟨c4, l, hl⟩
    dsimp only
    have hvc := fun hp : Heap => @vcso_cells hp l _ rfl
    by_cases hc : l.length < n
    · skip
      have F := trivial
      refine rn F ?_
      refine vc_cx (k := 0) (c := c4) (next_v c4 3 (by omega) (by omega)) rfl rfl ?_
      rintro r c5 ⟨y, rfl, hy⟩
      obtain ⟨u, hu⟩ : ∃ u : UInt8, 97 + (y : Int) = (u.toNat : Int) := byteOf _ (by omega)
      have e2 : cells encU l ++ [.pv (.lit (.int .u8 u.toNat))] = cells encU (l ++ [u]) := (cells_app encU l [u]).symm
      have e3 : (cells encU l).take l.length = cells encU l := by rw [List.take_of_length_le]; rw [cellsU_len]; exact Nat.le_refl _
      have hub : u.toNat < 256 := u.toNat_lt
      have hs2 : l.length ≤ 140737488355327 := by omega
      refine rn (And.intro @hu (And.intro @hs2 (And.intro @e3 @e2))) ?_
      have hl2 : (l ++ [u]).length = l.length + 1 := by simp
      refine ⟨⟨c5, l ++ [u], by rw [hl2]; omega⟩, by dsimp only; rw [hl2]; omega, ?_⟩
      dsimp only
      rw [hl2]
      exact (gc [0, 3])
    · skip
      have F := (And.intro @hcw @hvc)
      refine rn F ?_
      exact ⟨_, rfl, rfl, cc_nums _, rfl, ⟨_, rfl, by omega⟩, c4, rfl⟩
end Go.Proofs.YtipnkkooklhfgaaGreat

namespace Go.Proofs.YtipnkkooklhfgaaGreat
open Go.V Go
attribute [local go_sem] cb cc Ce.d Ch.d
abbrev CeX : DV → Prop := fun r => ∃ x : Ce, r = .agg x.d
abbrev ChX : DV → Prop := fun r => ∃ x : Ch, r = .agg x.d
abbrev EX : DV → Prop := fun r => ∃ x : E, r = .agg x.d
theorem cell_v (c : C) : VCalls Tryz.prog 68 [.ptr 0 0] [cb c] (CX CeX) := by
  refine dd Tryz.func68 ?_
  (unfold Tryz.f68; refine rn trivial ?_)
  refine vc_cx (k := 0) (c := c) (next_v c 3 (by omega) (by omega)) rfl rfl ?_
  rintro _ c1 ⟨z, rfl, hz⟩
  by_cases h0 : (z : Int) = 0
  · skip
    have F := @h0
    refine rn F ?_
    exact ⟨_, rfl, rfl, cc_nums _, rfl, ⟨⟨_, _⟩, rfl⟩, _, rfl⟩
  · skip
    have F := @h0
    refine rn F ?_
    refine vc_cx (k := 0) (c := c1) (data_v c1) rfl rfl ?_
    rintro _ c2 ⟨t, rfl, ht⟩
    obtain ⟨m, hm, hm1⟩ : ∃ m : Nat, (if 12 < (t.length : Int) then 12 else (t.length : Int)) = m ∧ m ≤ t.length := ⟨min t.length 12, by split <;> omega, by omega⟩
    have F := (And.intro @hm @hm1)
    refine rn F ?_
    exact ⟨_, rfl, rfl, cc_nums _, rfl, ⟨⟨_, _⟩, rfl⟩, _, rfl⟩
theorem change_v (c : C) : VCalls Tryz.prog 46 [.ptr 0 0] [cb c] (CX ChX) := by
  refine dd Tryz.func46 ?_
  (unfold Tryz.f46; refine rn trivial ?_)
  have F := trivial
  refine rn F ?_
  repeat' (first
    | with_reducible exact True.intro
    | (refine vc_cx (k := 0) (next_v _ 4 (by omega) (by omega)) rfl rfl ?_; rintro _ _ ⟨_, rfl, _⟩; refine rn F ?_)
    | (refine vc_cx (k := 0) (next_v _ 3 (by omega) (by omega)) rfl rfl ?_; rintro _ _ ⟨_, rfl, _⟩; refine rn F ?_)
    | (refine vc_cx (k := 0) (cell_v _) rfl rfl ?_; rintro _ _ ⟨_, rfl, _⟩; refine rn F ?_))
  exact ⟨_, rfl, rfl, cc_nums _, rfl, ⟨⟨_, _, ⟨_, _⟩, ⟨_, _⟩⟩, rfl⟩, _, rfl⟩
theorem oddchange_v (c : C) (x : Ch) : VCalls Tryz.prog 63 [.ptr 0 0, .agg x.d] [cb c] (CX ChX) := by
  refine dd Tryz.func63 ?_
  obtain ⟨pg, sl, ⟨b1, b2⟩, ⟨a1, a2⟩⟩ := x
  (unfold Tryz.f63; refine rn trivial ?_)
  have F := trivial
  refine rn F ?_
  repeat' (first
    | with_reducible exact True.intro
    | (refine sB F ?_ ?_ <;> intro hZ)
    | (refine vc_cx (k := 0) (next_v _ 4 (by omega) (by omega)) rfl rfl ?_; rintro _ _ ⟨_, rfl, _⟩; refine rn F ?_)
    | (refine vc_cx (k := 0) (next_v _ 2 (by omega) (by omega)) rfl rfl ?_; rintro _ _ ⟨_, rfl, _⟩; refine rn F ?_)
    | (refine vc_cx (k := 0) (int_v _) rfl rfl ?_; rintro _ _ ⟨_, rfl, _⟩; refine rn F ?_)
    | (refine vc_cx (k := 0) (data_v _) rfl rfl ?_; rintro _ _ ⟨_, rfl, _⟩; refine rn F ?_))
  all_goals exact ⟨_, rfl, rfl, cc_nums _, rfl, ⟨⟨_, _, ⟨_, _⟩, ⟨_, _⟩⟩, rfl⟩, _, rfl⟩
theorem entry_v (c : C) : VCalls Tryz.prog 18 [.ptr 0 0] [cb c] (CX EX) := by
  refine dd Tryz.func18 ?_
  (unfold Tryz.f18; refine rn trivial ?_)
  refine vc_cx (k := 0) (c := c) (next_v c 90 (by omega) (by omega)) rfl rfl ?_
  rintro _ c1 ⟨u, rfl, hu⟩
  refine rn trivial ?_
  refine vc_cx (k := 0) (c := c1) (next_v c1 8 (by omega) (by omega)) rfl rfl ?_
  rintro _ c2 ⟨z, rfl, hz⟩
  obtain ⟨k, hk, hk2⟩ : ∃ k : Int, 1 + (z : Int) = k ∧ (k = 1 ∨ k = 2 ∨ k = 3 ∨ k = 4 ∨ k = 5 ∨ k = 6 ∨ k = 7 ∨ k = 8) := ⟨_, rfl, by omega⟩
  refine rn @hk ?_
  clear hk
  rcases hk2 with rfl | rfl | rfl | rfl | rfl | rfl | rfl | rfl
  all_goals
    have F := trivial
    refine rn F ?_
    repeat' (first
      | with_reducible exact True.intro
      | (refine vc_cx (k := 0) (next_v _ 5 (by omega) (by omega)) rfl rfl ?_; rintro _ _ ⟨_, rfl, _⟩; refine rn F ?_)
      | (refine vc_cx (k := 0) (next_v _ 9 (by omega) (by omega)) rfl rfl ?_; rintro _ _ ⟨_, rfl, _⟩; refine rn F ?_)
      | (refine vc_cx (k := 0) (next_v _ 10 (by omega) (by omega)) rfl rfl ?_; rintro _ _ ⟨_, rfl, _⟩; refine rn F ?_)
      | (refine vc_cx (k := 0) (next_v _ 4 (by omega) (by omega)) rfl rfl ?_; rintro _ _ ⟨_, rfl, _⟩; refine rn F ?_)
      | (refine vc_cx (k := 0) (change_v _) rfl rfl ?_; rintro _ _ ⟨_, rfl, _⟩; refine rn F ?_)
      | (refine vc_cx (k := 0) (data_v _) rfl rfl ?_; rintro _ _ ⟨_, rfl, _⟩; refine rn F ?_)
      | (refine vc_cx (k := 0) (next_i _ _ (by omega) (by omega)) rfl rfl ?_; rintro _ _ ⟨_, rfl, _⟩; refine rn F ?_))
  all_goals exact ⟨_, rfl, rfl, cc_nums _, rfl, ⟨⟨_, _, _, _, _, _, ⟨_, _, ⟨_, _⟩, ⟨_, _⟩⟩, _⟩, rfl⟩, _, rfl⟩
theorem oddentry_v (c : C) (x : E) : VCalls Tryz.prog 41 [.ptr 0 0, .agg x.d] [cb c] (CX EX) := by
  refine dd Tryz.func41 ?_
  unfold E.d
  obtain ⟨lsn, kind, tx, ptx, ppg, ref, ⟨pg, sl, ⟨b1, b2⟩, ⟨a1, a2⟩⟩, blob⟩ := x
  (unfold Tryz.f41; refine rn trivial ?_)
  have hcw := fun (hp : Heap) (k o n : Nat) => conv_bts (hp := hp) (k := k) (off := o) (len := n) btsC
  have F := trivial
  refine rn F ?_
  repeat' (first
    | with_reducible exact True.intro
    | (refine sB F ?_ ?_ <;> intro hZ)
    | (refine vc_cx (k := 0) (next_v _ 9 (by omega) (by omega)) rfl rfl ?_; rintro _ _ ⟨_, rfl, _⟩; refine rn F ?_)
    | (refine vc_cx (k := 0) (next_v _ 11 (by omega) (by omega)) rfl rfl ?_; rintro _ _ ⟨_, rfl, _⟩; refine rn F ?_)
    | (refine vc_cx (k := 0) (int_v _) rfl rfl ?_; rintro _ _ ⟨_, rfl, _⟩; refine rn F ?_)
    | (refine vc_cx (k := 0) (oddchange_v _ ⟨pg, sl, ⟨b1, b2⟩, ⟨a1, a2⟩⟩) rfl rfl ?_; rintro _ _ ⟨_, rfl, _⟩; refine rn F ?_)
    | (refine vc_cx (k := 0) (data_v _) rfl rfl ?_; rintro _ _ ⟨_, rfl, _⟩; refine rn F ?_))
  all_goals first
    | exact ⟨_, rfl, rfl, cc_nums _, rfl, ⟨⟨_, _, _, _, _, _, ⟨_, _, ⟨_, _⟩, ⟨_, _⟩⟩, _⟩, rfl⟩, _, rfl⟩
    | skip
  · refine vc_cx (k := 0) (next_v _ 2 (by omega) (by omega)) rfl rfl ?_
    rintro _ c2 ⟨n, rfl, hn⟩
    obtain ⟨m, hm, hm1⟩ : ∃ m : Nat, 8192 + (n : Int) = m ∧ m ≤ 9000 := ⟨8192 + n, by omega, by omega⟩
    have hrl : (List.replicate m (0 : UInt8)).length = m := List.length_replicate
    have hvc := fun hp : Heap => @vcso_cells hp _ _ hrl
    have F := (And.intro @hm (And.intro @hm1 (And.intro @hcw @hvc)))
    refine rn F ?_
    exact ⟨_, rfl, rfl, cc_nums _, rfl, ⟨⟨_, _, _, _, _, _, ⟨_, _, ⟨_, _⟩, ⟨_, _⟩⟩, _⟩, rfl⟩, _, rfl⟩
end Go.Proofs.YtipnkkooklhfgaaGreat

namespace Go.Proofs.YtipnkkooklhfgaaGreat
open Go.V Go
attribute [local go_sem] cb cc Lg.c
theorem gE (l : List E) (i j : Nat) (h : i < l.length) (hj : j < 13) : (cells encE l)[i * 13 + j]? = ((encE.enc (l.getD i E0)).map DV.pv)[j]? := by
  have := cells_at encE l i h
  rw [getD_eq l i h]
  rw [← this, List.getElem?_take, if_pos (show j < encE.sz from hj), List.getElem?_drop]; rfl
theorem gE0 (l : List E) (i : Nat) (h : i < l.length) : (cells encE l)[i * 13]? = some (.pv (.lit (.int .i64 (l.getD i E0).lsn))) := gE l i 0 h (by decide)
theorem sE3 (l : List E) (i : Nat) (h : i < l.length) (x : Int) : (cells encE l).set (i * 13 + 3) (.pv (.lit (.int .i64 x))) = cells encE (l.set i { l.getD i E0 with ptx := x }) := setF encE l i 3 _ _ h (by decide) (by rw [getD_eq l i h]; rfl)
theorem sE4 (l : List E) (i : Nat) (h : i < l.length) (x : Int) : (cells encE l).set (i * 13 + 4) (.pv (.lit (.int .i64 x))) = cells encE (l.set i { l.getD i E0 with ppg := x }) := setF encE l i 4 _ _ h (by decide) (by rw [getD_eq l i h]; rfl)
theorem setE_in (l : List E) (i : Nat) (h : i < l.length) (e : E) : (cells encE l).take (i * 13) ++ [.pv (.lit (.int .i64 e.lsn)), .pv (.lit (.int .i64 e.kind)), .pv (.lit (.int .i64 e.tx)), .pv (.lit (.int .i64 e.ptx)), .pv (.lit (.int .i64 e.ppg)), .pv (.lit (.int .i64 e.ref)), .pv (.lit (.int .i64 e.c.pg)), .pv (.lit (.int .i64 e.c.sl)), .pv (.lit (.bool e.c.b.set)), .pv (.str e.c.b.data), .pv (.lit (.bool e.c.a.set)), .pv (.str e.c.a.data), .pv (.str e.blob)] ++ (cells encE l).drop (i * 13 + 13) = cells encE (l.set i e) := set_in encE l i e h
theorem elE (l : List E) (i : Nat) (h : i < l.length) : ((cells encE l).drop (i * 13)).take 13 = (l.getD i E0).d := by rw [getD_eq l i h]; exact cells_at encE l i h
def smLg (x : Lg) : Prop := ∀ i, i < x.es.length → 1 ≤ (x.es.getD i E0).lsn ∧ (x.es.getD i E0).lsn ≤ 1000000000
theorem oddlog_v (c : C) (x : Lg) (hl : x.es.length ≤ 4096) (hs : smLg x) : VCalls Tryz.prog 13 [.ptr 0 0, .agg x.c] [cb c] (CX fun r => ∃ y : Lg, r = .agg y.c ∧ y.es.length ≤ 4096) := by
  refine dk Tryz.func13 ?_
  obtain ⟨f, es, d⟩ := x
  dsimp only at hl hs
  (unfold Tryz.f13; refine rn trivial ?_)
  have F := trivial
  refine rn F ?_
  repeat' (first
    | with_reducible exact True.intro
    | (refine sG F ?_ ?_ <;> intro hZ)
    | (refine sB F ?_ ?_ <;> intro hZ)
    | (refine vc_cx (k := 0) (next_v _ 8 (by omega) (by omega)) rfl rfl ?_; rintro _ _ ⟨_, rfl, _⟩; refine rn F ?_)
    | (refine vc_cx (k := 0) (int_v _) rfl rfl ?_; rintro _ _ ⟨_, rfl, _⟩; refine rn F ?_))
  all_goals first
    | exact ⟨_, rfl, rfl, cc_nums _, rfl, ⟨⟨_, _, _⟩, rfl, hl⟩, _, rfl⟩
    | skip
  refine vc_cx (k := 0) (next_v _ es.length (by omega) (by omega)) rfl rfl ?_
  rintro _ c2 ⟨k, rfl, hk⟩
  have h0 := gE0 es k hk
  obtain ⟨hs1, hs2⟩ := hs k hk
  have h1 : k * 13 < es.length * 13 := by omega
  have h2 : k * 13 + 3 < es.length * 13 := by omega
  have h3 : k * 13 + 4 < es.length * 13 := by omega
  have h4 : k * 13 + 13 ≤ es.length * 13 := by omega
  have he := elE es k hk
  have h5 := sE3 es k hk
  have h6 := sE4 es k hk
  have h7 := setE_in es k hk
  have h8 := fun e => @List.length_set _ es k e
  generalize (es.getD k E0).lsn = n at *
  have F := (And.intro @h0 (And.intro @h1 (And.intro @h2 (And.intro @h3 (And.intro @h4 (And.intro @he (And.intro @h5 (And.intro @h6 (And.intro @h7 @h8)))))))))
  refine rn F ?_
  repeat' (first
    | with_reducible exact True.intro
    | (refine sB F ?_ ?_ <;> intro hZ)
    | (refine vc_cx (k := 0) (next_v _ 4 (by omega) (by omega)) rfl rfl ?_; rintro _ _ ⟨_, rfl, _⟩; refine rn F ?_)
    | (refine vc_cx (k := 0) (int_v _) rfl rfl ?_; rintro _ _ ⟨_, rfl, _⟩; refine rn F ?_)
    | (refine vc_cx (k := 0) (oddentry_v _ _) rfl rfl ?_; rintro _ _ ⟨_, rfl, _⟩; refine rn F ?_)
    | (refine vc_cx (k := 0) (next_i _ _ (by omega) (by omega)) rfl rfl ?_; rintro _ _ ⟨_, rfl, _⟩; refine rn F ?_)
    | (refine vspine (id := 10) [0, 1, 2, 3, 4, 5, 6, 7, 8, 9] [⟨[], [], 10, [0, 1, 2, 4, 5, 6, 7, 8], [11, 12]⟩, ⟨[], [], 13, [11], []⟩] (by kernel_rfl) (by kernel_rfl) ?_; refine rn F ?_)
    | (refine vspine (id := 12) [0, 1, 2, 3, 4, 5, 6, 7, 8, 9] [⟨[], [], 10, [0, 1, 2, 4, 5, 6, 7, 8], [11, 12]⟩, ⟨[], [], 13, [11], []⟩] (by kernel_rfl) (by kernel_rfl) ?_; refine rn F ?_)
    | (refine vspine (id := 14) [0, 1, 2, 3, 4, 5, 6, 7, 8] [⟨[], [], 9, [0, 1, 2, 4, 5, 6, 7], [10]⟩, ⟨[], [], 11, [], []⟩] (by kernel_rfl) (by kernel_rfl) ?_; refine rn F ?_))
  all_goals first
    | exact ⟨_, rfl, rfl, cc_nums _, rfl, ⟨⟨_, _, _⟩, rfl, hl⟩, _, rfl⟩
    | exact ⟨_, rfl, rfl, cc_nums _, rfl, ⟨⟨_, _, _⟩, rfl, by rw [List.length_set]; exact hl⟩, _, rfl⟩
    | skip
end Go.Proofs.YtipnkkooklhfgaaGreat

namespace Go.Proofs.YtipnkkooklhfgaaGreat
open Go.V Go
structure RQ (s : List UInt8) where
  at_ : Nat
  sh : Bool
  ha : at_ ≤ s.length
def rbQ (T : TypeId) (s : List UInt8) (r : RQ s) : Blk := ⟨T, true, [.pv (.str s), .int .i64 r.at_, .bool r.sh]⟩
theorem rb_nums (T : TypeId) (s : List UInt8) (r : RQ s) : DV.nums.go (fun _ => false) (rbQ T s r).cells = true := rfl
def numS (s : List UInt8) (k : Nat) (r : RQ s) : Int × RQ s :=
  if h : r.sh = true ∨ ¬ r.at_ + k ≤ s.length then (0, ⟨r.at_, true, r.ha⟩) else (IntKind.i64.wrap (accX s r.at_ k), ⟨r.at_ + k, false, by omega⟩)
theorem numS_sh {s : List UInt8} {k : Nat} {r : RQ s} (h : r.sh = true ∨ ¬ r.at_ + k ≤ s.length) : numS s k r = (0, ⟨r.at_, true, r.ha⟩) := by unfold numS; rw [dif_pos h]
theorem numS_ok {s : List UInt8} {k : Nat} {r : RQ s} (h : r.sh = false) (h' : r.at_ + k ≤ s.length) : numS s k r = (IntKind.i64.wrap (accX s r.at_ k), ⟨r.at_ + k, false, h'⟩) := by
  unfold numS; rw [dif_neg (fun z => z.elim (fun z => by rw [h] at z; cases z) (fun z => z h'))]
def RQ.lim {s : List UInt8} (r : RQ s) : Nat := r.at_ + (if r.sh then 4 else 0)
theorem RQ.lim_le {s : List UInt8} (r : RQ s) : r.lim ≤ s.length + 4 := by have := r.ha; unfold RQ.lim; split <;> omega
theorem numS_lim1 {s : List UInt8} {k : Nat} (hk : 4 ≤ k) (r : RQ s) (hr : r.sh = false) : r.lim + 4 ≤ (numS s k r).2.lim := by
  by_cases h : r.at_ + k ≤ s.length
  · rw [numS_ok hr h]; simp only [RQ.lim, hr]; simp; omega
  · rw [numS_sh (.inr h)]; simp only [RQ.lim, hr]; simp
theorem numS_lim {s : List UInt8} {k : Nat} (r : RQ s) : r.lim ≤ (numS s k r).2.lim := by
  cases hr : r.sh
  · by_cases h : r.at_ + k ≤ s.length
    · rw [numS_ok hr h]; simp only [RQ.lim, hr]; simp
    · rw [numS_sh (.inr h)]; simp only [RQ.lim, hr]; simp
  · rw [numS_sh (.inl hr)]; simp only [RQ.lim, hr]; simp
theorem numS_rng {s : List UInt8} {k : Nat} (r : RQ s) : -9223372036854775808 ≤ (numS s k r).1 ∧ (numS s k r).1 ≤ 9223372036854775807 := by
  unfold numS
  split
  · dsimp only; omega
  · dsimp only; rw [IntKind.wrap_i64]; omega
def rdN (s : List UInt8) : Nat → List Int → RQ s → List Int × RQ s
  | 0, out, r => (out, r)
  | n + 1, out, r => if r.sh = true then (out, r) else rdN s n (out ++ [(numS s 8 r).1]) (numS s 8 r).2
theorem rdN_sh {s : List UInt8} {n : Nat} {out : List Int} {r : RQ s} (h : r.sh = true) : rdN s n out r = (out, r) := by cases n; rfl; rw [rdN, if_pos h]
theorem rdN_lim {s : List UInt8} : ∀ (n : Nat) (out : List Int) (r : RQ s), 4 * out.length ≤ r.lim → 4 * (rdN s n out r).1.length ≤ (rdN s n out r).2.lim ∧ r.lim ≤ (rdN s n out r).2.lim
  | 0, _, _, h => ⟨h, Nat.le_refl _⟩
  | n + 1, out, r, h => by
    unfold rdN
    split
    · exact ⟨h, Nat.le_refl _⟩
    · rename_i hr
      have h1 := numS_lim1 (k := 8) (by omega) r (by simpa using hr)
      have h2 := rdN_lim n (out ++ [(numS s 8 r).1]) (numS s 8 r).2 (by simp; omega)
      exact ⟨h2.1, by omega⟩
def listS (s : List UInt8) (k : Nat) (r : RQ s) : List Int × RQ s := rdN s (numS s k r).1.toNat [] (numS s k r).2
theorem listS_len {s : List UInt8} {k : Nat} (r : RQ s) : 4 * (listS s k r).1.length ≤ s.length + 4 := Nat.le_trans (rdN_lim _ _ _ (Nat.zero_le _)).1 (RQ.lim_le _)
theorem listS_lim {s : List UInt8} {k : Nat} (r : RQ s) : r.lim ≤ (listS s k r).2.lim := Nat.le_trans (numS_lim r) (rdN_lim _ _ _ (Nat.zero_le _)).2
def txS (s : List UInt8) (r : RQ s) : Tx × RQ s :=
  let a := numS s 4 r
  let b := numS s 1 a.2
  let c := numS s 8 b.2
  let d := numS s 8 c.2
  let q := listS s 2 d.2
  let v := listS s 1 q.2
  (⟨a.1, b.1, c.1, d.1, q.1, v.1⟩, v.2)
theorem txS_lim1 {s : List UInt8} (r : RQ s) (hr : r.sh = false) : r.lim + 4 ≤ (txS s r).2.lim := by
  have h1 := numS_lim1 (k := 4) (by omega) r hr
  refine Nat.le_trans h1 ?_
  unfold txS
  refine Nat.le_trans (numS_lim _) (Nat.le_trans (numS_lim _) (Nat.le_trans (numS_lim _) (Nat.le_trans (listS_lim _) (listS_lim _))))
theorem txS_sm {s : List UInt8} (hs : s.length ≤ 3000000) (r : RQ s) : (txS s r).1.sm := ⟨by have := listS_len (k := 2) (numS s 8 (numS s 8 (numS s 1 (numS s 4 r).2).2).2).2; show (listS s 2 _).1.length ≤ _; omega, by have := listS_len (k := 1) (listS s 2 (numS s 8 (numS s 8 (numS s 1 (numS s 4 r).2).2).2).2).2; show (listS s 1 _).1.length ≤ _; omega⟩
def rdT (s : List UInt8) : Nat → List Tx → RQ s → List Tx × RQ s
  | 0, out, r => (out, r)
  | n + 1, out, r => if r.sh = true then (out, r) else rdT s n (out ++ [(txS s r).1]) (txS s r).2
theorem rdT_sh {s : List UInt8} {n : Nat} {out : List Tx} {r : RQ s} (h : r.sh = true) : rdT s n out r = (out, r) := by cases n; rfl; rw [rdT, if_pos h]
theorem rdT_lim {s : List UInt8} : ∀ (n : Nat) (out : List Tx) (r : RQ s), 4 * out.length ≤ r.lim → 4 * (rdT s n out r).1.length ≤ (rdT s n out r).2.lim
  | 0, _, _, h => h
  | n + 1, out, r, h => by
    unfold rdT
    split
    · exact h
    · rename_i hr
      have h1 := txS_lim1 r (by simpa using hr)
      exact rdT_lim n (out ++ [(txS s r).1]) (txS s r).2 (by simp; omega)
theorem rdT_sm {s : List UInt8} (hs : s.length ≤ 3000000) : ∀ (n : Nat) (out : List Tx) (r : RQ s), (∀ t ∈ out, t.sm) → ∀ t ∈ (rdT s n out r).1, t.sm
  | 0, _, _, h => h
  | n + 1, out, r, h => by
    unfold rdT
    split
    · exact h
    · refine rdT_sm hs n _ _ fun t ht => ?_
      rcases List.mem_append.1 ht with h1 | h1
      · exact h t h1
      · rw [List.mem_singleton.1 h1]; exact txS_sm hs r
def rq0 (s : List UInt8) : RQ s := ⟨0, false, Nat.zero_le _⟩
def rdA (s : List UInt8) : List Tx × RQ s := rdT s (numS s 2 (rq0 s)).1.toNat [] (numS s 2 (rq0 s)).2
theorem rdA_sm {s : List UInt8} (hs : s.length ≤ 3000000) : smL (rdA s).1 :=
  ⟨by have := rdT_lim (numS s 2 (rq0 s)).1.toNat [] (numS s 2 (rq0 s)).2 (Nat.zero_le _); have h2 := (rdA s).2.lim_le; unfold rdA at h2 ⊢; omega, rdT_sm hs _ _ _ (by simp)⟩
def decT (s : List UInt8) : List Tx × Int :=
  if (rdA s).2.sh = true then ([], 5) else if ((rdA s).2.at_ : Int) ≠ s.length then ([], 4) else if tblB (rdA s).1 = false then ([], 15) else ((rdA s).1, 0)
abbrev RY (T : TypeId) (s : List UInt8) (v : DV) (q : RQ s) : DV → Heap → Prop := fun r h' => ∃ B', h' = [B'] ∧ B'.live = true ∧ DV.nums.go (fun _ => false) B'.cells = true ∧ r.nums (fun _ => false) = true ∧ (r = v ∧ B' = rbQ T s q)
theorem vc_ry {g : FuncId} {args : List DV} {hp : Heap} {k : Nat} {T : TypeId} {s : List UInt8} {r q : RQ s} {v : DV} {K : DV → Heap → Prop} (h : VCalls Tryz.prog g (args.map (DV.ren fun _ => 0)) [rbQ T s r] (RY T s v q)) (hk : hp[k]? = some (rbQ T s r))
    (ha : DV.nums.go (fun i => i == k) args = true) (hK : K v (hp.set k (rbQ T s q))) : VCalls Tryz.prog g args hp K :=
  (VCalls.ptr1 (R := fun x B' => x = v ∧ B' = rbQ T s q) hk rfl (rb_nums T s r) h ha).mono fun x h' ⟨B', e1, _, _, e2, e3⟩ => by subst e1 e2 e3; exact hK
attribute [local go_sem] rbQ
attribute [local go_sem] lenT allT appT slkT srcT frzT app_T
@[go_sem] def lb (l : List Int) : DV := .pv (.sl (fz encI l))
theorem rnumb_v (s : List UInt8) (hs : s.length ≤ 3000000) (k : Nat) (h1 : 1 ≤ k) (h8 : k ≤ 8) (r : RQ s) : VCalls Tryz.prog 263 [.ptr 0 0, .int .i64 k] [rbQ 341 s r] (RY 341 s (.int .i64 (numS s k r).1) (numS s k r).2) := by
  refine dd Tryz.func263 ?_
  have ha := r.ha
  by_cases h : r.at_ + k ≤ s.length
  · have c1 := rget_v s (by omega) r.at_ k ⟨h1, h8⟩ h
    cases hr : r.sh
    · rw [numS_ok hr h]
      (unfold Tryz.f263; refine rn trivial ?_)
      have F := @hr
      refine rn F ?_
      repeat' (first
        | with_reducible exact True.intro
        | refine vp F (c1) ?_
        | (refine vspine (id := 1) [0, 1, 2, 3, 4, 5, 6, 7, 8] [⟨[], [], 9, [0, 1, 2, 4, 5, 6], [10, 11, 12]⟩, ⟨[], [], 13, [12], []⟩, ⟨[], [], 14, [], []⟩] (by kernel_rfl) (by kernel_rfl) ?_; refine rn F ?_))
      all_goals exact ⟨_, rfl, rfl, rfl, rfl, rfl, rfl⟩
    · rw [numS_sh (.inl hr)]
      (unfold Tryz.f263; refine rn trivial ?_)
      have F := @hr
      refine rn F ?_
      repeat' (first
        | with_reducible exact True.intro
        | refine vp F (c1) ?_
        | (refine vspine (id := 1) [0, 1, 2, 3, 4, 5, 6, 7, 8] [⟨[], [], 9, [0, 1, 2, 4, 5, 6], [10, 11, 12]⟩, ⟨[], [], 13, [12], []⟩, ⟨[], [], 14, [], []⟩] (by kernel_rfl) (by kernel_rfl) ?_; refine rn F ?_))
      all_goals exact ⟨_, rfl, rfl, rfl, rfl, rfl, (by first | rfl | simp only [rbQ, hr])⟩
  · have c1 := rget_short s r.at_ k (by omega) (by omega) (by omega)
    rw [numS_sh (.inr h)]
    (unfold Tryz.f263; refine rn trivial ?_)
    have F := trivial
    refine rn F ?_
    repeat' (first
      | with_reducible exact True.intro
      | (refine sG F ?_ ?_ <;> intro hZ)
      | refine vp F (c1) ?_
      | (refine vspine (id := 1) [0, 1, 2, 3, 4, 5, 6, 7, 8] [⟨[], [], 9, [0, 1, 2, 4, 5, 6], [10, 11, 12]⟩, ⟨[], [], 13, [12], []⟩, ⟨[], [], 14, [], []⟩] (by kernel_rfl) (by kernel_rfl) ?_; refine rn F ?_))
    all_goals exact ⟨_, rfl, rfl, rfl, rfl, rfl, rfl⟩
structure LSrnum (s : List UInt8) (fin : List Int × RQ s) where
  n : Int
  out : List Int
  r : RQ s
  hn : -9223372036854775808 ≤ n ∧ n ≤ 9223372036854775807
  ho : 4 * out.length ≤ r.lim
  he : rdN s n.toNat out r = fin
theorem rlst_v (s : List UInt8) (hs : s.length ≤ 3000000) (k : Nat) (h1 : 1 ≤ k) (h8 : k ≤ 8) (r : RQ s) : VCalls Tryz.prog 264 [.ptr 0 0, .int .i64 k] [rbQ 341 s r] (RY 341 s (lb (listS s k r).1) (listS s k r).2) := by
  refine dd Tryz.func264 ?_
  (unfold Tryz.f264; refine rn trivial ?_)
  refine vc_ry (k := 0) (rnumb_v s hs k h1 h8 r) rfl rfl ?_
  refine rn trivial ?_
  refine VLoop.nilOwn 5 3 1 rfl ?_
  refine vloopW (fun t : LSrnum s (listS s k r) => ⟨27, 1, [(6, .int .i64 t.n), (5, .own 1 1 0 t.out.length), (0, .ptr 0 0)], [rbQ 341 s t.r, ⟨3, true, cells encI t.out⟩]⟩) (fun t => t.n.toNat) ⟨(numS s k r).1, [], (numS s k r).2, numS_rng r, Nat.zero_le _, rfl⟩ (gc [0, 1]) ?_
  rintro ⟨n, out, q, hn, ho, he⟩
  dsimp only
  have hl := q.lim_le
  have hl1 : out.length + 1 ≤ 1000000 := by omega
  have hb : (out.length + 1) * 8 ≤ 140737488355328 := by omega
  obtain ⟨a, sh, ha⟩ := q
  cases sh
  · by_cases h0 : 0 < n
    · have e : n.toNat = (n - 1).toNat + 1 := by omega
      rw [e, rdN, if_neg (by simp)] at he
      have hm := numS_lim1 (k := 8) (by omega) (⟨a, false, ha⟩ : RQ s) rfl
      have F := (And.intro @h0 (And.intro @app_I @hb))
      refine rn F ?_
      refine vc_ry (k := 0) (rnumb_v s hs 8 (by omega) (by omega) ⟨a, false, ha⟩) rfl rfl ?_
      have F := (And.intro @app_I @hb)
      refine rn F ?_
      refine ⟨⟨n - 1, _, _, by omega, by simp; omega, he⟩, by show (n - 1).toNat < n.toNat; omega, ?_⟩
      dsimp only
      rw [List.length_append]
      exact (gc [0, 3])
    · have e : n.toNat = 0 := by omega
      rw [e, rdN] at he
      have F := (And.intro @app_I @hb)
      refine rn F ?_
      all_goals exact ⟨_, rfl, rfl, rfl, rfl, (by rw [← he]; try rfl), (by rw [← he]; try rfl)⟩
  · rw [rdN_sh rfl] at he
    have F := (And.intro @app_I @hb)
    refine rn F ?_
    repeat' (first
      | with_reducible exact True.intro
      | (refine sG F ?_ ?_ <;> intro hZ))
    all_goals exact ⟨_, rfl, rfl, rfl, rfl, (by rw [← he]; try rfl), (by rw [← he]; try rfl)⟩
structure DTrnum (s : List UInt8) where
  n : Int
  out : List Tx
  r : RQ s
  hn : -9223372036854775808 ≤ n ∧ n ≤ 9223372036854775807
  ho : 4 * out.length ≤ r.lim
  he : rdT s n.toNat out r = rdA s
theorem rtdecode_v (s : List UInt8) (hs : s.length ≤ 3000000) : VCalls Tryz.prog 261 [.pv (.str s)] [] (Ret (tblD (decT s))) := by
  refine VCalls.unwk ?_
  refine dd Tryz.func261 ?_
  (unfold Tryz.f261; refine rn trivial ?_)
  refine vc_ry (k := 0) (rnumb_v s hs 2 (by omega) (by omega) (rq0 s)) rfl rfl ?_
  refine rn trivial ?_
  refine VLoop.nilOwn 5 226 6 rfl ?_
  refine vloopW (fun t : DTrnum s => ⟨64, 0, [(6, .int .i64 t.n), (5, .own 1 6 0 t.out.length), (4, .ptr 0 0), (0, .pv (.str s))], [rbQ 341 s t.r, ⟨226, true, cells encT t.out⟩]⟩) (fun t => t.n.toNat) ⟨(numS s 2 (rq0 s)).1, [], (numS s 2 (rq0 s)).2, numS_rng _, Nat.zero_le _, rfl⟩ (gc [0, 1]) ?_
  rintro ⟨n, out, q, hn, ho, he⟩
  dsimp only
  have hl := q.lim_le
  have hb : (out.length + 1) * 80 ≤ 140737488355328 := by omega
  have hsm := rdA_sm hs
  have ed : decT s = if (rdA s).2.sh = true then ([], 5) else if ((rdA s).2.at_ : Int) ≠ s.length then ([], 4) else if tblB (rdA s).1 = false then ([], 15) else ((rdA s).1, 0) := rfl
  obtain ⟨a, sh, ha⟩ := q
  cases sh
  · by_cases h0 : 0 < n
    · have e : n.toNat = (n - 1).toNat + 1 := by omega
      rw [e, rdT, if_neg (by simp)] at he
      have hm := txS_lim1 (⟨a, false, ha⟩ : RQ s) rfl
      simp only [txS] at he hm
      have cA := rnumb_v s hs 4 (by omega) (by omega) ⟨a, false, ha⟩
      generalize numS s 4 ⟨a, false, ha⟩ = A at cA he hm
      have cB := rnumb_v s hs 1 (by omega) (by omega) A.2
      generalize numS s 1 A.2 = B at cB he hm
      have cC := rnumb_v s hs 8 (by omega) (by omega) B.2
      generalize numS s 8 B.2 = C at cC he hm
      have cD := rnumb_v s hs 8 (by omega) (by omega) C.2
      generalize numS s 8 C.2 = D at cD he hm
      have cE := rlst_v s hs 2 (by omega) (by omega) D.2
      generalize listS s 2 D.2 = E at cE he hm
      have cF := rlst_v s hs 1 (by omega) (by omega) E.2
      generalize listS s 1 E.2 = W at cF he hm
      have F := (And.intro @h0 (And.intro @app_T @hb))
      refine rn F ?_
      refine vc_ry (k := 0) cA rfl rfl ?_
      have F := (And.intro @h0 (And.intro @app_T @hb))
      refine rn F ?_
      refine vc_ry (k := 0) cB rfl rfl ?_
      have F := (And.intro @h0 (And.intro @app_T @hb))
      refine rn F ?_
      refine vc_ry (k := 0) cC rfl rfl ?_
      have F := (And.intro @h0 (And.intro @app_T @hb))
      refine rn F ?_
      refine vc_ry (k := 0) cD rfl rfl ?_
      have F := (And.intro @h0 (And.intro @app_T @hb))
      refine rn F ?_
      refine vc_ry (k := 0) cE rfl rfl ?_
      have F := (And.intro @h0 (And.intro @app_T @hb))
      refine rn F ?_
      refine vc_ry (k := 0) cF rfl rfl ?_
      have F := (And.intro @h0 (And.intro @app_T @hb))
      refine rn F ?_
      refine ⟨⟨n - 1, _, _, by omega, by simp; omega, he⟩, by show (n - 1).toNat < n.toNat; omega, ?_⟩
      dsimp only
      have e2 : cells encT out ++ [.pv (.lit (.int .i64 A.1)), .pv (.lit (.int .i64 B.1)), .pv (.lit (.int .i64 C.1)), .pv (.lit (.int .i64 D.1)), .pv (.sl (fz encI E.1)), .pv (.sl (fz encI W.1))] = cells encT (out ++ [⟨A.1, B.1, C.1, D.1, E.1, W.1⟩]) := app_T out ⟨A.1, B.1, C.1, D.1, E.1, W.1⟩
      rw [List.length_append]
      rw [e2]
      exact (gc [0, 4])
    · have e : n.toNat = 0 := by omega
      rw [e, rdT] at he
      rw [← he] at ed hsm
      have c1 := rtvalid_v out hsm
      rw [ed]
      by_cases h1 : (a : Int) = s.length
      · cases hv : tblB out
        · rw [hv] at c1
          dsimp only
          rw [if_neg (by simp), if_neg (by simpa using h1), if_pos (by first | rfl | exact hv)]
          have F := (And.intro @h0 (And.intro @h1 @hb))
          refine rn F ?_
          repeat' (first
            | with_reducible exact True.intro
            | refine vl F (c1) ?_)
          all_goals first | rfl | contradiction
        · rw [hv] at c1
          dsimp only
          rw [if_neg (by simp), if_neg (by simpa using h1), if_neg (by first | simp; done | (rw [hv]; simp))]
          have F := (And.intro @h0 (And.intro @h1 @hb))
          refine rn F ?_
          repeat' (first
            | with_reducible exact True.intro
            | refine vl F (c1) ?_)
          all_goals first | rfl | contradiction
      · dsimp only
        rw [if_neg (by simp), if_pos (by simpa using h1)]
        have F := (And.intro @h0 (And.intro @h1 @hb))
        refine rn F ?_
        all_goals first | rfl | contradiction
  · rw [rdT_sh rfl] at he
    rw [← he] at ed
    rw [ed]
    dsimp only
    rw [if_pos rfl]
    have F := @hb
    refine rn F ?_
    repeat' (first
      | with_reducible exact True.intro
      | (refine sG F ?_ ?_ <;> intro hZ))
    all_goals first | rfl | contradiction
end Go.Proofs.YtipnkkooklhfgaaGreat

namespace Go.Proofs.YtipnkkooklhfgaaGreat
open Go.V Go
attribute [local go_sem] iteLe
@[go_sem] def tbD (a : Tx × Bool) : DV := .tup [.agg a.1.d, .bool a.2]
theorem rending_w (k : Kn) (h : k.sm) (tx : Int) : VCalls Tryz.prog 157 [.agg k.d, .int .i64 tx] [] (RetS tbD fun _ => True) := by
  refine dk Tryz.func157 ?_
  have c1 := rkvalid_w k h
  have c2 := rfind_v k.tx (Nat.le_trans h.2.2.2.1.1 (by decide)) tx
  rcases idT_cases k.tx tx with hn | ⟨i, hil, hid, _⟩
  · rw [hn] at c2
    (unfold Tryz.f157; refine rn trivial ?_)
    have F := trivial
    refine rn F ?_
    repeat' (first
      | with_reducible exact True.intro
      | (refine sB F ?_ ?_ <;> intro hZ)
      | (refine vc_S (c1) rfl ?_; rintro b -; refine rn F ?_)
      | refine vp F (c2) ?_)
    all_goals exact ⟨rfl, rfl, (Tx0, false), rfl, trivial⟩
  rw [hid] at c2
  have hg := fzT_g k.tx i hil
  (unfold Tryz.f157; refine rn trivial ?_)
  have F := @hg
  refine rn F ?_
  repeat' (first
    | with_reducible exact True.intro
    | (refine sB F ?_ ?_ <;> intro hZ)
    | (refine vc_S (c1) rfl ?_; rintro b hb; refine rn F ?_)
    | refine vp F (c2) ?_)
  all_goals first
    | exact ⟨rfl, rfl, (k.tx.getD i Tx0, true), rfl, trivial⟩
    | exact ⟨rfl, rfl, (Tx0, false), rfl, trivial⟩
    | skip
@[go_sem] def blkD (a : Int × Int × Int × Bool) : DV := .tup [.int .i64 a.1, .agg [.int .i64 a.2.1, .int .i64 a.2.2.1], .bool a.2.2.2]
theorem rblocker_w (k : Kn) (h : k.sm) (tx : Int) : VCalls Tryz.prog 135 [.agg k.d, .int .i64 tx] [] (RetS blkD fun _ => True) := by
  refine dk Tryz.func135 ?_
  have h3 := h.2.2.1
  have c1 := rwaiting_w k.lk (by omega) tx
  have c2 := rfor_w k.lk (by omega) tx
  have c3 := fun n => rending_w k h n
  (unfold Tryz.f135; refine rn trivial ?_)
  have F := trivial
  refine rn F ?_
  repeat' (first
    | with_reducible exact True.intro
    | (refine sB F ?_ ?_ <;> intro hZ)
    | (refine vc_S (c1) rfl ?_; rintro ⟨g, b⟩ -; refine rn F ?_)
    | (refine vc_S (c2) rfl ?_; rintro l hl; refine rn F ?_))
  all_goals first
    | exact ⟨rfl, rfl, (0, 0, 0, false), rfl, trivial⟩
    | skip
  refine vloopW (fun s : To l.length => ⟨44, 0, [(28, .int .i64 s.i), (27, .int .i64 l.length), (26, .pv (.sl (fz encI l))), (7, .ptr 2 0), (5, .ptr 1 0), (2, .ptr 0 0)], [⟨72, true, k.d⟩, ⟨207, true, [.int .i64 0, .int .i64 0]⟩, ⟨230, true, g.d⟩]⟩) (fun s => l.length - s.i) ⟨0, Nat.zero_le _⟩ (gc [0, 1, 2]) ?_
  rintro ⟨i, hi⟩
  dsimp only
  have hx := fun h : i < l.length => fzI_get l i h
  have F := @hx
  refine rn F ?_
  repeat' (first
    | with_reducible exact True.intro
    | (refine sB F ?_ ?_ <;> intro hZ)
    | (refine vc_S (c3 _) rfl ?_; rintro ⟨t, b3⟩ -; refine rn F ?_)
    | (refine vspine (id := 9) [0, 1, 2] [⟨[], [], 3, [1, 2], []⟩, ⟨[], [], 4, [], []⟩, ⟨[], [], 5, [], []⟩] (by kernel_rfl) (by kernel_rfl) ?_; refine rn F ?_))
  all_goals first
    | exact ⟨rfl, rfl, (_, g.pg, g.sl, true), rfl, trivial⟩
    | exact ⟨rfl, rfl, (0, 0, 0, false), rfl, trivial⟩
    | exact ⟨⟨i + 1, by omega⟩, by dsimp only; omega, (gc [0, 1, 2])⟩
    | skip
theorem rleftK_w (k : Kn) (h : k.sm) : VCalls Tryz.prog 131 [.agg k.d] [] (RetS ilD fun l => l.length ≤ 65) := by
  refine dk Tryz.func131 ?_
  have h4 := h.2.2.2.1.1
  have c3 := fun n => rending_w k h n
  (unfold Tryz.f131; refine rn trivial ?_)
  refine VLoop.nilOwn 3 3 1 rfl ?_
  refine rn trivial ?_
  refine vloopW (fun s : {s : Nat × List Int // s.1 ≤ k.tx.length ∧ s.2.length ≤ s.1} => ⟨36, 0, [(4, .int .i64 s.1.1), (3, .own 1 1 0 s.1.2.length), (1, .ptr 0 0)], [⟨72, true, k.d⟩, ⟨3, true, cells encI s.1.2⟩]⟩) (fun s => k.tx.length - s.1.1) ⟨(0, []), by simp⟩ (gc [0, 1]) ?_
  rintro ⟨⟨i, out⟩, hi, ho⟩
  dsimp only at hi ho ⊢
  have hg := fun h : i < k.tx.length => fzT_g k.tx i h
  have hb : (out.length + 1) * 8 ≤ 140737488355328 := by omega
  have F := (And.intro @hg @hb)
  refine rn F ?_
  repeat' (first
    | with_reducible exact True.intro
    | (refine sB F ?_ ?_ <;> intro hZ)
    | (refine vc_S (c3 _) rfl ?_; rintro ⟨t, b3⟩ -; refine rn F ?_)
    | (refine vspine (id := 5) [0, 1, 2, 3, 4, 5, 6] [⟨[11], [], 7, [1, 2, 3, 4, 5], [8, 9, 10]⟩, ⟨[11], [11], 12, [10], []⟩, ⟨[], [], 13, [], []⟩] (by kernel_rfl) (by kernel_rfl) ?_; refine rn F ?_))
  all_goals first
    | exact ⟨rfl, rfl, out, rfl, by omega⟩
    | exact ⟨⟨(i + 1, out), by dsimp only; omega, by dsimp only; omega⟩, by dsimp only; omega, (gc [0, 1])⟩
    | exact ⟨⟨(i + 1, out ++ [(k.tx.getD i Tx0).id]), by dsimp only; omega, by simp; omega⟩, by dsimp only; omega, by dsimp only; rw [List.length_append]; exact (gc [0, 4])⟩
    | skip
@[go_sem] def sniD (a : Sv × Nat × Int) : DV := .tup [.agg a.1.d, .int .i64 a.2.1, .int .i64 a.2.2]
def ceQ (s : Sv) (a : Sv × Nat × Int) : Prop := a.1.sm ∧ Ev s.k.lg a.1.k.lg ∧ a.2.1 + s.k.lg.es.length ≤ a.1.k.lg.es.length
structure Rn (s0 : Sv) where
  s : Sv
  n : Nat
  sm : s.sm
  ev : Ev s0.k.lg s.k.lg
  up : n + s0.k.lg.es.length ≤ s.k.lg.es.length
theorem rscell_w (s : Sv) (hs : s.sm) (tx pg sl : Int) : VCalls Tryz.prog 136 [.agg s.d, .int .i64 tx, .agg [.int .i64 pg, .int .i64 sl]] [] (RetS sniD (ceQ s)) := by
  refine dk Tryz.func136 ?_
  (unfold Tryz.f136; refine rn trivial ?_)
  refine vloopW (fun r : Rn s => ⟨57, 0, [(9, .int .i64 r.n), (6, .ptr 2 0), (5, .ptr 1 0), (3, .ptr 0 0), (1, .int .i64 tx)], [⟨102, true, r.s.d⟩, ⟨207, true, [.int .i64 pg, .int .i64 sl]⟩, ⟨102, true, Zv⟩]⟩) (fun r => 2 * (4096 - r.s.k.lg.es.length) + inP r.s.k.pl.fs pg) ⟨s, 0, hs, Ev.refl _, by omega⟩ (gc [0, 1, 2]) ?_
  rintro ⟨s1, n, sm, ev, up⟩
  have hle := sm.1.1
  dsimp only
  unfold Zv
  have d1 := rcell_w s1.k sm.1 tx pg sl
  have d2 := fun p => rfetch_w s1 sm p
  have F := trivial
  refine rn F ?_
  repeat' (first
    | with_reducible exact True.intro
    | (refine sB F ?_ ?_ <;> intro hZ)
    | (refine vc_S (d1) rfl ?_; rintro ⟨k1, r1⟩ hq; refine rn F ?_)
    | (refine vc_S (d2 _) rfl ?_; rintro ⟨s2, e2⟩ hq2; refine rn F ?_)
    | (refine vspine (id := 6) [0, 1, 2, 3] [⟨[], [], 4, [1, 2, 3], []⟩, ⟨[], [], 5, [2, 3], []⟩, ⟨[], [], 6, [], []⟩] (by kernel_rfl) (by kernel_rfl) ?_; refine rn F ?_))
  all_goals first
    | exact ⟨rfl, rfl, (s1, n, _), rfl, sm, ev, up⟩
    | skip
  · obtain ⟨g1, g2, g3⟩ := hq.2.2.1 (by first | assumption | (dsimp only; omega))
    have q2 := hq2.2 (by dsimp only; omega)
    dsimp only at g1 g2 g3 q2
    rw [g2] at q2
    have hl := q2.1.len
    refine ⟨⟨s2, n, hq2.1, ev.trans q2.1, by omega⟩, ?_, (gc [0, 1, 2])⟩
    unfold inP
    dsimp only
    rw [if_pos q2.2.2, if_neg (by omega)]
    omega
  · have q := hq.2.2.2 (by dsimp only; omega) (by dsimp only; omega) (by dsimp only; omega)
    have hk := hq.1.1
    have h1 := inP_le k1.pl.fs pg
    dsimp only at q hk
    exact ⟨⟨⟨k1, s1.v⟩, n + 1, ⟨hq.1, sm.2⟩, ev.trans hq.2.1, by dsimp only; omega⟩, by dsimp only; omega, (gc [0, 1, 2])⟩
end Go.Proofs.YtipnkkooklhfgaaGreat

namespace Go.Proofs.YtipnkkooklhfgaaGreat
open Go.V Go
attribute [local go_sem] iteLe
theorem rido_w (s : Sv) (hs : s.sm) (tx : Int) (a : Ac) : VCalls Tryz.prog 122 [.agg s.d, .int .i64 tx, .agg a.d] [] (RetS srD (sdoQ s)) := by
  refine dk Tryz.func122 ?_
  (unfold Tryz.f122; refine rn trivial ?_)
  refine vloopW (fun r : Re s => ⟨58, 0, [(7, .ptr 3 0), (6, .ptr 2 0), (5, .ptr 1 0), (3, .ptr 0 0), (1, .int .i64 tx)], [⟨102, true, r.s.d⟩, ⟨159, true, a.d⟩, ⟨102, true, Zv⟩, ⟨156, true, Zr⟩]⟩) (fun r => 4096 - r.s.k.lg.es.length) ⟨s, hs, Ev.refl _⟩ (gc [0, 1, 2, 3]) ?_
  rintro ⟨s1, sm, ev⟩
  dsimp only
  unfold Zv Zr
  have d1 := rsdo_w s1 sm tx a
  have d2 := fun (t : Sv) (h : t.sm) => rblocker_w t.k h.1 tx
  have d3 := fun (t : Sv) (h : t.sm) => rscell_w t h
  have F := trivial
  refine rn F ?_
  repeat' (first
    | with_reducible exact True.intro
    | (refine sB F ?_ ?_ <;> intro hZ)
    | (refine vc_S (d1) rfl ?_; rintro ⟨s2, r2⟩ hq; refine rn F ?_)
    | (refine vc_S (d2 s2 hq.1) rfl ?_; rintro ⟨x, p, q, b⟩ -; refine rn F ?_)
    | (refine vc_S (d3 s2 hq.1 _ _ _) rfl ?_; rintro ⟨s3, n, e3⟩ hq3; refine rn F ?_)
    | refine vp F (failed_v _) ?_
    | (refine vspine (id := 4) [0, 1] [⟨[], [], 2, [1], []⟩, ⟨[], [], 3, [], []⟩] (by kernel_rfl) (by kernel_rfl) ?_; refine rn F ?_)
    | (refine vspine (id := 7) [0, 1] [⟨[], [], 2, [1], []⟩, ⟨[], [], 3, [], []⟩] (by kernel_rfl) (by kernel_rfl) ?_; refine rn F ?_)
    | (refine vspine (id := 11) [0, 1] [⟨[], [], 2, [0], []⟩, ⟨[], [], 3, [1], []⟩, ⟨[], [], 4, [], []⟩] (by kernel_rfl) (by kernel_rfl) ?_; refine rn F ?_)
    | (refine vspine (id := 13) [0, 1] [⟨[], [], 2, [1], []⟩, ⟨[], [], 3, [], []⟩] (by kernel_rfl) (by kernel_rfl) ?_; refine rn F ?_))
  all_goals first
    | exact ⟨rfl, rfl, (s2, r2), rfl, hq.1, ev.trans hq.2⟩
    | exact ⟨rfl, rfl, (s3, failR e3), rfl, hq3.1, (ev.trans hq.2).trans hq3.2.1⟩
    | exact ⟨rfl, rfl, (s3, r2), rfl, hq3.1, (ev.trans hq.2).trans hq3.2.1⟩
    | skip
  have h1 := hq.2.len
  have h2 := hq3.2.2
  have h3 := hq3.1.1.1
  dsimp only at h1 h2 h3
  exact ⟨⟨s3, hq3.1, (ev.trans hq.2).trans hq3.2.1⟩, by dsimp only; omega, (gc [0, 1, 2, 3])⟩
@[go_sem] def sbiD (a : Sv × Bool × Int) : DV := .tup [.agg a.1.d, .bool a.2.1, .int .i64 a.2.2]
def wkQ (s : Sv) (a : Sv × Bool × Int) : Prop := a.1.sm ∧ (a.2.2 = 0 → Ev s.k.lg a.1.k.lg)
theorem rwork_w (s : Sv) (hs : s.sm) : VCalls Tryz.prog 118 [.agg s.d] [] (RetS sbiD (wkQ s)) := by
  refine dk Tryz.func118 ?_
  have c1 := rkvalid_w s.k hs.1
  have c2 := fun n => rfetch_w s hs n
  have c3 := rleftK_w s.k hs.1
  have hg := fun h : 0 < s.k.la.length => fzY_at s.k.la 0 h
  have e0 : ∀ e, e ≠ 0 → wkQ s (Sv0, false, e) := fun e h => ⟨Sv0_sm, fun h2 => absurd h2 h⟩
  (unfold Tryz.f118; refine rn trivial ?_)
  have F := @hg
  refine rn F ?_
  repeat' (first
    | with_reducible exact True.intro
    | (refine sB F ?_ ?_ <;> intro hZ)
    | (refine vc_S (c1) rfl ?_; rintro b -; refine rn F ?_)
    | (refine vc_S (c2 _) rfl ?_; rintro ⟨s2, e2⟩ hq; refine rn F ?_)
    | (refine vc_S (c3) rfl ?_; rintro l hl; refine rn F ?_)
    | (refine vspine (id := 4) [0, 1, 2, 3, 4, 5, 6] [⟨[11], [], 7, [1, 2, 3, 4, 5], [8, 9, 10]⟩, ⟨[11], [11], 12, [10], []⟩, ⟨[], [], 13, [], []⟩] (by kernel_rfl) (by kernel_rfl) ?_; refine rn F ?_))
  all_goals first
    | exact ⟨rfl, rfl, (Sv0, false, 15), rfl, e0 _ (by decide)⟩
    | exact ⟨rfl, rfl, (s, false, 0), rfl, hs, fun _ => Ev.refl _⟩
    | exact ⟨rfl, rfl, (s2, _, e2), rfl, hq.1, fun h => (hq.2 h).1⟩
    | skip
  have hg0 := fun h : 0 < l.length => fzI_get l 0 h
  generalize l.getD 0 0 = tx at *
  refine vloopW (fun r : Re s => ⟨77, 0, [(7, .pv (.sl (fz encI l))), (2, .ptr 1 0), (1, .ptr 0 0)], [⟨102, true, r.s.d⟩, ⟨102, true, Zv⟩]⟩) (fun r => rbM tx r.s) ⟨s, hs, Ev.refl _⟩ (gc [0, 1]) ?_
  rintro ⟨s1, sm, ev⟩
  dsimp only
  unfold Zv
  have d2 := rstep_w s1.k sm.1 tx
  have d3 := fun n => rfetch_w s1 sm n
  have F := @hg0
  refine rn F ?_
  repeat' (first
    | with_reducible exact True.intro
    | (refine sB F ?_ ?_ <;> intro hZ)
    | (refine vc_S (d2) rfl ?_; rintro ⟨k1, r1⟩ hq; refine rn F ?_)
    | (refine vc_S (d3 _) rfl ?_; rintro ⟨s2, e2⟩ hq2; refine rn F ?_)
    | (refine vspine (id := 9) [0, 1, 2, 3, 4] [⟨[9, 10], [], 5, [0, 2, 3], [6, 7, 8]⟩, ⟨[9, 10], [9], 11, [8], []⟩, ⟨[10], [10], 12, [], []⟩] (by kernel_rfl) (by kernel_rfl) ?_; refine rn F ?_)
    | (refine vspine (id := 11) [0, 1, 2] [⟨[], [], 3, [1, 2], []⟩, ⟨[], [], 4, [1, 2], []⟩, ⟨[], [], 5, [], []⟩] (by kernel_rfl) (by kernel_rfl) ?_; refine rn F ?_))
  all_goals first
    | exact ⟨rfl, rfl, (Sv0, false, e2), rfl, e0 _ (by assumption)⟩
    | exact ⟨rfl, rfl, (Sv0, false, r1.er), rfl, e0 _ (hq.2.2.2.2 (by assumption))⟩
    | exact ⟨rfl, rfl, (⟨k1, s1.v⟩, true, 0), rfl, ⟨hq.1, sm.2⟩, fun _ => ev.trans hq.2.1⟩
    | skip
  obtain ⟨v, _, g1, g2, g3⟩ := hq.2.2.1 (by first | assumption | (dsimp only; omega))
  have q2 := hq2.2 (by dsimp only; omega)
  dsimp only at g1 g3 q2
  rw [g1] at g3 q2
  exact ⟨⟨s2, hq2.1, ev.trans q2.1⟩, rbM_page q2.1 q2.2.1 g2 g3 q2.2.2, (gc [0, 1])⟩
end Go.Proofs.YtipnkkooklhfgaaGreat

namespace Go.Proofs.YtipnkkooklhfgaaGreat
open Go.V Go
@[go_sem] def stD (s : List UInt8) : DV := .pv (.str s)
theorem rput_w (s : List UInt8) (hs : s.length ≤ 1000000000) (n : Int) (k : Nat) (h1 : 1 ≤ k) (h8 : k ≤ 8) : VCalls Tryz.prog 70 [.pv (.str s), .int .i64 n, .int .i64 k] [] (RetS stD fun t => t.length = s.length + k) :=
  (rput_v s hs n k h1 h8).toS (putL s n k) rfl (putL_len s n k)
theorem rput1 (s : List UInt8) (hs : s.length ≤ 1000000000) (n : Int) : VCalls Tryz.prog 70 [.pv (.str s), .int .i64 n, .int .i64 1] [] (RetS stD fun t => t.length = s.length + 1) := rput_w s hs n 1 (by omega) (by omega)
theorem rput2 (s : List UInt8) (hs : s.length ≤ 1000000000) (n : Int) : VCalls Tryz.prog 70 [.pv (.str s), .int .i64 n, .int .i64 2] [] (RetS stD fun t => t.length = s.length + 2) := rput_w s hs n 2 (by omega) (by omega)
theorem rput4 (s : List UInt8) (hs : s.length ≤ 1000000000) (n : Int) : VCalls Tryz.prog 70 [.pv (.str s), .int .i64 n, .int .i64 4] [] (RetS stD fun t => t.length = s.length + 4) := rput_w s hs n 4 (by omega) (by omega)
theorem rput8 (s : List UInt8) (hs : s.length ≤ 1000000000) (n : Int) : VCalls Tryz.prog 70 [.pv (.str s), .int .i64 n, .int .i64 8] [] (RetS stD fun t => t.length = s.length + 8) := rput_w s hs n 8 (by omega) (by omega)
theorem rnumbers_w (s : List UInt8) (hs : s.length ≤ 800000000) (l : List Int) (hl : l.length ≤ 100000) : VCalls Tryz.prog 221 [.pv (.str s), .pv (.sl (fz encI l))] [] (RetS stD fun t => t.length ≤ s.length + 800000) := by
  refine dd Tryz.func221 ?_
  (unfold Tryz.f221; refine rn trivial ?_)
  refine vloopW (fun r : {r : Nat × List UInt8 // r.1 ≤ l.length ∧ r.2.length = s.length + 8 * r.1} => ⟨19, 0, [(5, .int .i64 r.1.1), (1, .pv (.sl (fz encI l))), (0, .pv (.str r.1.2))], []⟩) (fun r => l.length - r.1.1) ⟨(0, s), by simp⟩ (gc []) ?_
  rintro ⟨⟨i, t⟩, hi, ht⟩
  dsimp only at hi ht ⊢
  have hg := fun h : i < l.length => fzI_get l i h
  have c1 := rput8 t (by omega)
  have F := @hg
  refine rn F ?_
  repeat' (first
    | with_reducible exact True.intro
    | (refine sB F ?_ ?_ <;> intro hZ)
    | (refine vc_S (c1 _) rfl ?_; rintro u hu; refine rn F ?_))
  all_goals first
    | exact ⟨⟨(i + 1, u), by dsimp only; omega, by dsimp only; omega⟩, by dsimp only; omega, (gc [])⟩
    | exact ⟨rfl, rfl, t, rfl, by omega⟩
    | skip
theorem rtenc_w (l : List Tx) (hl : smN 65 l) : VCalls Tryz.prog 180 [.pv (.sl (fz encT l))] [] (RetS siD fun a => a.1.length ≤ 200000000) := by
  refine dd Tryz.func180 ?_
  have c1 := rtvalid_v l (hl.smL (by omega))
  have h1 := hl.1
  have c2 := rput2 [] (by simp)
  generalize tblB l = b at *
  (unfold Tryz.f180; refine rn trivial ?_)
  have F := trivial
  refine rn F ?_
  repeat' (first
    | with_reducible exact True.intro
    | (refine sB F ?_ ?_ <;> intro hZ)
    | refine vp F (c1) ?_
    | (refine vc_S (c2 _) rfl ?_; rintro u hu; refine rn F ?_))
  all_goals first
    | exact ⟨rfl, rfl, ([], 15), rfl, by simp⟩
    | skip
  refine vloopW (fun r : {r : Nat × List UInt8 // r.1 ≤ l.length ∧ r.2.length ≤ 2 + 1600024 * r.1} => ⟨56, 0, [(5, .int .i64 r.1.1), (4, .pv (.str r.1.2)), (0, .pv (.sl (fz encT l)))], []⟩) (fun r => l.length - r.1.1) ⟨(0, u), by simp at hu ⊢; omega⟩ (gc []) ?_
  rintro ⟨⟨i, t⟩, hi, ht⟩
  dsimp only at hi ht ⊢
  have hg := fun h : i < l.length => fzT_g l i h
  have hss : i < l.length → (l.getD i Tx0).l.length ≤ 100000 ∧ (l.getD i Tx0).s.length ≤ 100000 := fun h => by rw [getD_eq _ _ h]; exact hl.2 _ (List.getElem_mem h)
  generalize l.getD i Tx0 = x at *
  by_cases hil : i < l.length
  rotate_left
  · skip
    have F := @hg
    refine rn F ?_
    exact ⟨rfl, rfl, (t, 0), rfl, by dsimp only; omega⟩
  obtain ⟨s1, s2⟩ := hss hil
  have F := @hg
  refine rn F ?_
  repeat' (first
    | with_reducible exact True.intro
    | (refine vc_S (rput4 t (by omega) x.id) rfl ?_; rintro u1 hu1; refine rn F ?_)
    | (refine vc_S (rput1 u1 (by omega) x.st) rfl ?_; rintro u2 hu2; refine rn F ?_)
    | (refine vc_S (rput8 u2 (by omega) x.n) rfl ?_; rintro u3 hu3; refine rn F ?_)
    | (refine vc_S (rput8 u3 (by omega) x.b) rfl ?_; rintro u4 hu4; refine rn F ?_)
    | (refine vc_S (rput2 u4 (by omega) _) rfl ?_; rintro u5 hu5; refine rn F ?_)
    | (refine vc_S (rnumbers_w u5 (by omega) x.l s1) rfl ?_; rintro u6 hu6; refine rn F ?_)
    | (refine vc_S (rput1 u6 (by omega) x.s.length) rfl ?_; rintro u7 hu7; refine rn F ?_)
    | (refine vc_S (rnumbers_w u7 (by omega) x.s s2) rfl ?_; rintro u8 hu8; refine rn F ?_)
    | (refine vspine (id := 12) [0, 1, 2, 3, 5, 6] [⟨[], [], 4, [1, 2, 5, 6], []⟩, ⟨[], [], 7, [0, 1, 2, 3, 5], []⟩, ⟨[], [], 8, [], []⟩] (by kernel_rfl) (by kernel_rfl) ?_; refine rn F ?_)
    | (refine vspine (id := 13) [0, 1, 2, 3, 5, 6] [⟨[], [], 4, [1, 2, 5, 6], []⟩, ⟨[], [], 7, [0, 1, 2, 3, 5], []⟩, ⟨[], [], 8, [], []⟩] (by kernel_rfl) (by kernel_rfl) ?_; refine rn F ?_))
  all_goals first
    | exact ⟨⟨(i + 1, u8), hil, Nat.le_trans (show u8.length ≤ (2 + 1600024 * i) + 1600024 by omega) (by rw [Nat.mul_succ]; exact Nat.le_of_eq (Nat.add_assoc _ _ _))⟩, by dsimp only; omega, (gc [])⟩
    | skip
theorem rixenc_w (l : List Rw) (hl : l.length ≤ 64) : VCalls Tryz.prog 181 [.agg [.pv (.sl (fz encR l))]] [] (RetS siD fun a => a.1.length ≤ 2000) := by
  refine dd Tryz.func181 ?_
  have c1 := rixvalid_v l (by omega)
  have c2 := rput2 [] (by simp)
  generalize ixB l = b at *
  (unfold Tryz.f181; refine rn trivial ?_)
  have F := trivial
  refine rn F ?_
  repeat' (first
    | with_reducible exact True.intro
    | (refine sB F ?_ ?_ <;> intro hZ)
    | refine vp F (c1) ?_
    | (refine vc_S (c2 _) rfl ?_; rintro u hu; refine rn F ?_))
  all_goals first
    | exact ⟨rfl, rfl, ([], 28), rfl, by simp⟩
    | skip
  refine vloopW (fun r : {r : Nat × List UInt8 // r.1 ≤ l.length ∧ r.2.length ≤ 2 + 24 * r.1} => ⟨45, 0, [(5, .int .i64 r.1.1), (4, .pv (.str r.1.2)), (1, .ptr 0 0)], [⟨69, true, [.pv (.sl (fz encR l))]⟩]⟩) (fun r => l.length - r.1.1) ⟨(0, u), by simp at hu ⊢; omega⟩ (gc [0]) ?_
  rintro ⟨⟨i, t⟩, hi, ht⟩
  dsimp only at hi ht ⊢
  have hg := fun h : i < l.length => fzR_at l i h
  generalize l.getD i Rw0 = x at *
  have F := @hg
  refine rn F ?_
  repeat' (first
    | with_reducible exact True.intro
    | (refine sB F ?_ ?_ <;> intro hZ)
    | (refine vc_S (rput8 t (by omega) x.lsn) rfl ?_; rintro u1 hu1; refine rn F ?_)
    | (refine vc_S (rput8 u1 (by omega) x.im) rfl ?_; rintro u2 hu2; refine rn F ?_)
    | (refine vc_S (rput8 u2 (by omega) x.at_) rfl ?_; rintro u3 hu3; refine rn F ?_))
  all_goals first
    | exact ⟨⟨(i + 1, u3), by dsimp only; omega, by dsimp only; omega⟩, by dsimp only; omega, (gc [0])⟩
    | exact ⟨rfl, rfl, (t, 0), rfl, by dsimp only; omega⟩
    | skip
end Go.Proofs.YtipnkkooklhfgaaGreat

namespace Go.Proofs.YtipnkkooklhfgaaGreat
open Go.V Go
attribute [local go_sem] frzHeap
structure Cp where
  pg : Int
  nx : Int
  tx : List Tx
  dl : List Dt
  ix : List Rw
@[go_sem] def Cp.d (c : Cp) : List DV := [.int .i64 c.pg, .int .i64 c.nx, .pv (.sl (fz encT c.tx)), .pv (.sl (fz encY c.dl)), .pv (.sl (fz encR c.ix))]
def Cp0 : Cp := ⟨0, 0, [], [], []⟩
def Cp.sm (c : Cp) : Prop := smN 65 c.tx ∧ c.dl.length ≤ 10000 ∧ c.ix.length ≤ 64
theorem Cp0_sm : Cp0.sm := ⟨smN_nil _, by decide, by decide⟩
@[go_sem] def cpD2 (a : Cp × Int) : DV := .tup [.agg a.1.d, .int .i64 a.2]
def Zc : List DV := [.int .i64 0, .int .i64 0, .pv (.slc []), .pv (.slc []), .pv (.slc [])]
theorem rcpof_w (k : Kn) (h : k.sm) : VCalls Tryz.prog 144 [.agg k.d] [] (RetS cpD2 fun a => a.1.sm) := by
  refine dk Tryz.func144 ?_
  have c1 := rkvalid_w k h
  obtain ⟨h1, h2, h3, h4, h5, h6⟩ := h
  have c2 := fun n => rlacks_w k (by omega) n
  have c3 := rpdirty_v k.pl (by omega)
  (unfold Tryz.f144; refine rn trivial ?_)
  refine vc_S c1 rfl ?_
  rintro b hb
  cases b
  · skip
    have F := trivial
    refine rn F ?_
    exact ⟨rfl, rfl, (Cp0, 15), rfl, Cp0_sm⟩
  have hv := (hb rfl).1
  have F := trivial
  refine rn F ?_
  refine VLoop.nilOwnC 2 3 200 3 rfl rfl ?_
  refine rn trivial ?_
  refine vloopW (fun s : {s : Nat × List Dt // s.1 ≤ 64 ∧ s.2.length ≤ 65 * s.1} => ⟨62, 0, [(5, .int .i64 s.1.1), (4, .ptr 2 0), (2, .ptr 1 0), (1, .ptr 0 0)], [⟨72, true, k.d⟩, ⟨219, true, Zc⟩, ⟨219, true, [.int .i64 k.pg, .int .i64 k.nx, .pv (.sl (fz encT k.tx)), .own 3 3 0 s.1.2.length, .pv (.sl (fz encR k.ix))]⟩, ⟨200, true, cells encY s.1.2⟩]⟩) (fun s => 64 - s.1.1) ⟨(0, []), by simp⟩ (gc [0, 1, 2, 3]) ?_
  rintro ⟨⟨i, out⟩, hi, ho⟩
  dsimp only at hi ho ⊢
  unfold Zc
  have hb1 : (out.length + 1) * 24 ≤ 140737488355328 := by omega
  have F := @hb1
  refine rn F ?_
  repeat' (first
    | with_reducible exact True.intro
    | (refine sB F ?_ ?_ <;> intro hZ)
    | (refine vc_S (c2 _) rfl ?_; rintro ⟨d, b2⟩ -; refine rn F ?_)
    | (refine vc_S (c3) rfl ?_; rintro l hl; refine rn F ?_))
  rotate_left 2
  · exact ⟨rfl, rfl, (⟨k.pg, k.nx, k.tx, out, k.ix⟩, 0), rfl, h4, by dsimp only; omega, h5⟩
  all_goals
    first
      | refine vloopW (fun s : {s : Nat × List Dt // s.1 ≤ l.length ∧ s.2.length ≤ 65 * i + 1 + s.1} => ⟨62, 0, [(46, .int .i64 s.1.1), (45, .int .i64 l.length), (44, .pv (.sl (fz encY l))), (5, .int .i64 i), (4, .ptr 2 0), (2, .ptr 1 0), (1, .ptr 0 0)], [⟨72, true, k.d⟩, ⟨219, true, Zc⟩, ⟨219, true, [.int .i64 k.pg, .int .i64 k.nx, .pv (.sl (fz encT k.tx)), .own 3 3 0 s.1.2.length, .pv (.sl (fz encR k.ix))]⟩, ⟨200, true, cells encY s.1.2⟩]⟩) (fun s => l.length - s.1.1) ⟨(0, out ++ [⟨d.pg, d.rc, d.last⟩]), by dsimp only; rw [List.length_append]; exact ⟨Nat.zero_le _, by simp; omega⟩⟩ (by dsimp only; rw [List.length_append]; exact (gc [0, 1, 2, 6])) ?_
      | refine vloopW (fun s : {s : Nat × List Dt // s.1 ≤ l.length ∧ s.2.length ≤ 65 * i + 1 + s.1} => ⟨62, 0, [(46, .int .i64 s.1.1), (45, .int .i64 l.length), (44, .pv (.sl (fz encY l))), (5, .int .i64 i), (4, .ptr 2 0), (2, .ptr 1 0), (1, .ptr 0 0)], [⟨72, true, k.d⟩, ⟨219, true, Zc⟩, ⟨219, true, [.int .i64 k.pg, .int .i64 k.nx, .pv (.sl (fz encT k.tx)), .own 3 3 0 s.1.2.length, .pv (.sl (fz encR k.ix))]⟩, ⟨200, true, cells encY s.1.2⟩]⟩) (fun s => l.length - s.1.1) ⟨(0, out), by dsimp only; exact ⟨Nat.zero_le _, by omega⟩⟩ (gc [0, 1, 2, 3]) ?_
    rintro ⟨⟨j, o2⟩, hj, ho2⟩
    dsimp only at hj ho2 ⊢
    unfold Zc
    have hy := fun h : j < l.length => fzY_at l j h
    have hb2 : (o2.length + 1) * 24 ≤ 140737488355328 := by omega
    have F := (And.intro @hy @hb2)
    refine rn F ?_
    repeat' (first
      | with_reducible exact True.intro
      | (refine sB F ?_ ?_ <;> intro hZ))
  all_goals first
    | exact ⟨⟨(j + 1, o2), by dsimp only; omega, by dsimp only; omega⟩, by dsimp only; omega, (gc [0, 1, 2, 3])⟩
    | exact ⟨⟨(j + 1, o2 ++ [⟨(l.getD j Dt0).pg, (l.getD j Dt0).rc, (l.getD j Dt0).last⟩]), by dsimp only; omega, by simp; omega⟩, by dsimp only; omega, by dsimp only; rw [List.length_append]; exact (gc [0, 1, 2, 6])⟩
    | exact ⟨⟨(i + 1, o2), by dsimp only; omega, by dsimp only; omega⟩, by dsimp only; omega, (gc [0, 1, 2, 3])⟩
    | skip
  all_goals skip
end Go.Proofs.YtipnkkooklhfgaaGreat

namespace Go.Proofs.YtipnkkooklhfgaaGreat
open Go.V Go
theorem rcpvalid_w (c : Cp) (h : c.sm) : VCalls Tryz.prog 179 [.agg c.d] [] (RetS boD fun _ => True) := by
  refine dd Tryz.func179 ?_
  obtain ⟨h1, h2, h3⟩ := h
  have h10 := h1.1
  have c1 := rtvalid_v c.tx (h1.smL (by omega))
  have c2 := fun n => rvdirty_w c.dl (by omega) n
  have c3 := rixvalid_v c.ix (by omega)
  generalize tblB c.tx = b1 at *
  generalize ixB c.ix = b2 at *
  (unfold Tryz.f179; refine rn trivial ?_)
  have F := trivial
  refine rn F ?_
  repeat' (first
    | with_reducible exact True.intro
    | (refine sG F ?_ ?_ <;> intro hZ)
    | (refine sB F ?_ ?_ <;> intro hZ)
    | refine vp F (c1) ?_
    | (refine vc_S (c2 _) rfl ?_; rintro b3 -; refine rn F ?_)
    | refine vp F (c3) ?_)
  all_goals first
    | exact ⟨rfl, rfl, false, rfl, trivial⟩
    | skip
  all_goals
    refine vloopW (fun s : To c.tx.length => ⟨67, 0, [(3, .int .i64 s.i), (1, .ptr 0 0)], [⟨219, true, c.d⟩]⟩) (fun s => c.tx.length - s.i) ⟨0, Nat.zero_le _⟩ (gc [0]) ?_
    rintro ⟨i, hi⟩
    dsimp only
    have hg := fun h : i < c.tx.length => fzT_g c.tx i h
    have F := @hg
    refine rn F ?_
    repeat' (first
      | with_reducible exact True.intro
      | (refine sB F ?_ ?_ <;> intro hZ)
      | (refine vspine (id := 6) [0, 1, 2, 3, 4, 5, 6, 7, 8] [] (by kernel_rfl) (by kernel_rfl) ?_; refine rn F ?_))
  all_goals first
    | exact ⟨rfl, rfl, false, rfl, trivial⟩
    | exact ⟨rfl, rfl, true, rfl, trivial⟩
    | exact ⟨⟨i + 1, by omega⟩, by dsimp only; omega, (gc [0])⟩
    | skip
theorem rcpenc_w (c : Cp) (h : c.sm) : VCalls Tryz.prog 145 [.agg c.d] [] (RetS siD fun a => a.1.length ≤ 300000000) := by
  refine dd Tryz.func145 ?_
  have c1 := rcpvalid_w c h
  obtain ⟨h1, h2, h3⟩ := h
  have c2 := rtenc_w c.tx h1
  have c3 := rixenc_w c.ix h3
  have c4 := rput2 [] (by simp)
  (unfold Tryz.f145; refine rn trivial ?_)
  have F := trivial
  refine rn F ?_
  repeat' (first
    | with_reducible exact True.intro
    | (refine sB F ?_ ?_ <;> intro hZ)
    | (refine vc_S (c1) rfl ?_; rintro b -; refine rn F ?_)
    | (refine vc_S (c2) rfl ?_; rintro ⟨t, e⟩ ht; refine rn F ?_)
    | (refine vc_S (c4 _) rfl ?_; rintro u1 hu1; refine rn F ?_)
    | (refine vc_S (rput4 u1 (by simp at hu1; omega) c.nx) rfl ?_; rintro u2 hu2; refine rn F ?_)
    | (refine vc_S (rput4 u2 (by simp at hu1; omega) t.length) rfl ?_; rintro u3 hu3; refine rn F ?_))
  all_goals first
    | exact ⟨rfl, rfl, ([], 24), rfl, by simp⟩
    | skip
  dsimp only at ht
  simp only [List.length_nil] at hu1
  have hadd := str_add (a := u3) (b := t) (by omega)
  have hw : (u3 ++ t).length = u3.length + t.length := List.length_append
  have F := @hadd
  refine rn F ?_
  repeat' (first
    | with_reducible exact True.intro
    | (refine vc_S (rput1 (u3 ++ t) (by rw [hw]; omega) c.dl.length) rfl ?_; rintro u4 hu4; refine rn F ?_))
  rw [hw] at hu4
  refine vloopW (fun r : {r : Nat × List UInt8 // r.1 ≤ c.dl.length ∧ r.2.length = u4.length + 17 * r.1} => ⟨77, 0, [(7, .int .i64 r.1.1), (6, .pv (.str r.1.2)), (1, .ptr 0 0)], [⟨219, true, c.d⟩]⟩) (fun r => c.dl.length - r.1.1) ⟨(0, u4), by simp⟩ (gc [0]) ?_
  rintro ⟨⟨i, v⟩, hi, hv⟩
  dsimp only at hi hv ⊢
  have hy := fun h : i < c.dl.length => fzY_at c.dl i h
  generalize c.dl.getD i Dt0 = x at *
  have F := @hy
  refine rn F ?_
  repeat' (first
    | with_reducible exact True.intro
    | (refine sB F ?_ ?_ <;> intro hZ)
    | (refine vc_S (rput1 v (by omega) x.pg) rfl ?_; rintro v1 hv1; refine rn F ?_)
    | (refine vc_S (rput8 v1 (by omega) x.rc) rfl ?_; rintro v2 hv2; refine rn F ?_)
    | (refine vc_S (rput8 v2 (by omega) x.last) rfl ?_; rintro v3 hv3; refine rn F ?_)
    | (refine vc_S (c3) rfl ?_; rintro ⟨w, e2⟩ hw2; refine rn F ?_))
  all_goals first
    | exact ⟨⟨(i + 1, v3), by dsimp only; omega, by dsimp only; omega⟩, by dsimp only; omega, (gc [0])⟩
    | skip
  dsimp only at hw2
  have hadd2 := str_add (a := v) (b := w) (by omega)
  have F := @hadd2
  refine rn F ?_
  exact ⟨rfl, rfl, (v ++ w, 0), rfl, by dsimp only; rw [List.length_append]; omega⟩
theorem forceS_ev {x : Lg} {n : Int} (h : (forceS x n).2 = 0) : Ev x (forceS x n).1 := by
  unfold forceS at h ⊢
  split at h
  · simp at h
  rename_i q1
  split at h
  · simp at h
  rename_i q2
  rw [if_neg q1, if_neg q2]
  refine ⟨rfl, List.prefix_rfl, fun hv => ?_⟩
  have hd := lgB_hd hv
  unfold lgB at hv ⊢
  simp only [Bool.and_eq_true, decide_eq_true_eq] at hv ⊢
  refine ⟨?_, hv.2⟩
  simp only [Lg.hd, Lg.end_] at hd q2 ⊢
  split <;> omega
theorem forceS_len (x : Lg) (n : Int) (h : x.es.length ≤ 4096) : (forceS x n).1.es.length ≤ 4096 := by
  unfold forceS
  repeat' split
  all_goals first | exact Nat.zero_le _ | exact h
theorem addQ_force {k k1 : Kn} {e : E} {n1 e1 : Int} (hq : addQ k e (k1, n1, e1)) (h : e1 = 0) : (forceS k1.lg n1).2 = 0 := by
  obtain ⟨e', ⟨_, _, _, hl, _⟩, hk, hn, hv⟩ := hq.2 h
  dsimp only at hk hn hv
  subst hk
  unfold forceS
  rw [if_neg (by rw [hv]; decide), if_neg]
  simp only [Kn.add, Lg.end_, List.length_append, List.length_cons, List.length_nil] at *
  omega
def takeQ (k : Kn) (a : Kn × Int × Int) : Prop := a.1.sm ∧ (a.2.2 = 0 → Ev k.lg a.1.lg)
theorem rtake_w (k : Kn) (h : k.sm) : VCalls Tryz.prog 126 [.agg k.d] [] (RetS kie (takeQ k)) := by
  refine dk Tryz.func126 ?_
  have c1 := rcpof_w k h
  have c2 := fun c hc => rcpenc_w c hc
  have c3 := fun t => rkadd_w k h ⟨0, 6, 0, 0, 0, 0, Ch0, t⟩
  have e0 : ∀ n e, e ≠ 0 → takeQ k (Kn0, n, e) := fun n e h => ⟨Kn0_sm, fun h2 => absurd h2 h⟩
  (unfold Tryz.f126; refine rn trivial ?_)
  have F := trivial
  refine rn F ?_
  repeat' (first
    | with_reducible exact True.intro
    | (refine sB F ?_ ?_ <;> intro hZ)
    | (refine vc_S (c1) rfl ?_; rintro ⟨c, e⟩ hc; refine rn F ?_)
    | (refine vc_S (c2 c hc) rfl ?_; rintro ⟨t, e2⟩ ht; refine rn F ?_)
    | (refine vc_S (c3 _) rfl ?_; rintro ⟨k1, n1, e1⟩ hq; refine rn F ?_)
    | refine vp F (rforce_v k1.lg (Nat.le_trans hq.1.1 (by decide)) n1) ?_)
  all_goals first
    | exact ⟨rfl, rfl, (Kn0, 0, 21), rfl, e0 _ _ (by decide)⟩
    | exact ⟨rfl, rfl, (Kn0, 0, e), rfl, e0 _ _ (by assumption)⟩
    | exact ⟨rfl, rfl, (Kn0, 0, e1), rfl, e0 _ _ (by assumption)⟩
    | skip
  have he1 : e1 = 0 := by omega
  obtain ⟨q1, q2, q3, q4, q5, q6, q7⟩ := addQ_ev hq he1
  obtain ⟨r1, r2, r3, r4, r5, r6⟩ := hq.1
  have hf := forceS_ev (addQ_force hq he1)
  exact ⟨rfl, rfl, (⟨k1.pg, k1.nx, (forceS k1.lg n1).1, k1.pl, k1.lk, k1.tx, k1.ix, k1.la⟩, n1, 0), rfl, ⟨forceS_len _ _ r1, r2, r3, r4, r5, r6⟩, fun _ => q1.trans hf⟩
theorem rscheck_w (s : Sv) (hs : s.sm) : VCalls Tryz.prog 115 [.agg s.d] [] (RetS siiD fun a => a.1.sm ∧ (a.2.2 = 0 → Ev s.k.lg a.1.k.lg)) := by
  refine dk Tryz.func115 ?_
  have c1 := rtake_w s.k hs.1
  (unfold Tryz.f115; refine rn trivial ?_)
  have F := trivial
  refine rn F ?_
  repeat' (first
    | with_reducible exact True.intro
    | (refine sB F ?_ ?_ <;> intro hZ)
    | (refine vc_S (c1) rfl ?_; rintro ⟨k1, n1, e1⟩ hq; refine rn F ?_))
  all_goals first
    | exact ⟨rfl, rfl, (Sv0, 0, e1), rfl, Sv0_sm, fun h => absurd h (by assumption)⟩
    | exact ⟨rfl, rfl, (⟨k1, s.v⟩, n1, 0), rfl, ⟨hq.1, hs.2⟩, fun _ => hq.2 (by dsimp only; omega)⟩
    | skip
end Go.Proofs.YtipnkkooklhfgaaGreat

namespace Go.Proofs.YtipnkkooklhfgaaGreat
open Go.V Go
@[go_sem] def niZ (a : Int × Int) : DV := .tup [.int .i64 a.1, .int .i64 a.2]
theorem rgetn_w (s : List UInt8) (hs : s.length ≤ 100000000) (a : Int) (k : Nat) (h1 : 1 ≤ k) (h8 : k ≤ 8) (h0 : 0 ≤ a) : VCalls Tryz.prog 60 [.pv (.str s), .int .i64 a, .int .i64 k] [] (RetS niZ fun r => (k ≤ 4 → 0 ≤ r.1 ∧ r.1 < 4294967296) ∧ (k ≤ 2 → r.1 < 65536) ∧ (k ≤ 1 → r.1 < 256) ∧ (r.2 = 0 → a + k ≤ s.length)) := by
  by_cases h : a + k ≤ s.length
  · obtain ⟨n, rfl⟩ : ∃ n : Nat, a = n := ⟨a.toNat, by omega⟩
    refine (rget_v s (by omega) n k ⟨h1, h8⟩ (by omega)).toS (IntKind.i64.wrap (accX s n k), 0) rfl ⟨fun hk => ?_, fun hk => ?_, fun hk => ?_, fun _ => h⟩
    all_goals
      have e := accX_leN s n k (by omega)
      have h2 := leN_lt s n k
      dsimp only
      rw [e, IntKind.wrap_i64]
    · have : (2 : Nat) ^ (8 * k) ≤ 2 ^ 32 := Nat.pow_le_pow_right (by omega) (by omega)
      omega
    · have : (2 : Nat) ^ (8 * k) ≤ 2 ^ 16 := Nat.pow_le_pow_right (by omega) (by omega)
      omega
    · have : (2 : Nat) ^ (8 * k) ≤ 2 ^ 8 := Nat.pow_le_pow_right (by omega) (by omega)
      omega
  · refine (rget_short s a k (by omega) h0 h).toS (0, 5) rfl ⟨fun _ => by decide, fun _ => by decide, fun _ => by decide, fun h => by simp at h⟩
structure RwS (n : Nat) where
  i : Nat
  l : List Rw
  hl : l.length = i
  hi : i ≤ n
@[go_sem] def ixD (a : List Rw × Int) : DV := .tup [.agg [.pv (.sl (fz encR a.1))], .int .i64 a.2]
theorem rixdec_w (s : List UInt8) (hs : s.length ≤ 100000000) : VCalls Tryz.prog 262 [.pv (.str s)] [] (RetS ixD fun a => a.1.length ≤ 64) := by
  refine dk Tryz.func262 ?_
  have c1 := rgetn_w s hs 0 2 (by omega) (by omega) (by omega)
  have c8 := fun a h => rgetn_w s hs a 8 (by omega) (by omega) h
  (unfold Tryz.f262; refine rn trivial ?_)
  have F := trivial
  refine rn F ?_
  repeat' (first
    | with_reducible exact True.intro
    | (refine sG F ?_ ?_ <;> intro hZ)
    | (refine sB F ?_ ?_ <;> intro hZ)
    | (refine vc_S (c1) rfl ?_; rintro ⟨n, e⟩ hn; refine rn F ?_))
  all_goals first
    | exact ⟨rfl, rfl, ([], _), rfl, Nat.zero_le _⟩
    | skip
  dsimp only at hn
  obtain ⟨n, rfl⟩ : ∃ m : Nat, n = m := ⟨n.toNat, by omega⟩
  have hn2 : n < 65536 := by omega
  clear hn
  refine VLoop.nilOwnC 1 0 280 3 rfl rfl ?_
  refine rn trivial ?_
  refine vloopW (fun r : RwS n => ⟨77, 0, [(7, .int .i64 r.i), (6, .ptr 1 0), (4, .int .i64 n), (2, .ptr 0 0), (0, .pv (.str s))], [⟨69, true, [.pv (.slc [])]⟩, ⟨69, true, [.own 2 3 0 r.i]⟩, ⟨280, true, cells encR r.l⟩]⟩) (fun r => n - r.i) ⟨0, [], rfl, Nat.zero_le _⟩ (gc [0, 1, 2]) ?_
  rintro ⟨i, l, hl, hi⟩
  dsimp only at hi ⊢
  subst hl
  have hb : (l.length + 1) * 24 ≤ 140737488355328 := by omega
  have c9 := rixvalid_v l (by omega)
  have hix := fun h : ixB l = true => ixB_len h
  generalize ixB l = ok at *
  have F := @hb
  refine rn F ?_
  repeat' (first
    | with_reducible exact True.intro
    | (refine sB F ?_ ?_ <;> intro hZ)
    | (refine vc_S (c8 (2 + 24 * (l.length : Int)) (by omega)) rfl ?_; rintro ⟨a1, e1⟩ h1; refine rn F ?_)
    | (refine vc_S (c8 (10 + 24 * (l.length : Int)) (by omega)) rfl ?_; rintro ⟨a2, e2⟩ h2; refine rn F ?_)
    | (refine vc_S (c8 (18 + 24 * (l.length : Int)) (by omega)) rfl ?_; rintro ⟨a3, e3⟩ h3; refine rn F ?_))
  · have hl2 : (l ++ [(⟨a1, a2, a3⟩ : Rw)]).length = l.length + 1 := by simp
    have hil : l.length < n := by omega
    clear h1 h2 h3
    refine ⟨⟨l.length + 1, l ++ [⟨a1, a2, a3⟩], hl2, hil⟩, by dsimp only; omega, ?_⟩
    exact (gc [0, 1, 5])
  have hix := fun h : ixB l = true => ixB_len h
  have c9 := rixvalid_v l (by omega)
  generalize ixB l = ok at *
  refine vl hb c9 ?_
  cases ok
  · skip
    have F := @hb
    refine rn F ?_
    exact ⟨rfl, rfl, ([], _), rfl, Nat.zero_le _⟩
  · skip
    have F := @hb
    refine rn F ?_
    exact ⟨rfl, rfl, (l, 0), rfl, (hix rfl).2⟩
end Go.Proofs.YtipnkkooklhfgaaGreat

namespace Go.Proofs.YtipnkkooklhfgaaGreat
open Go.V Go
structure DtS (n m : Nat) where
  i : Nat
  a : Int
  l : List Dt
  hl : l.length = i
  hi : i ≤ m
  ha : a = 11 + n + 17 * i
theorem rcpdec_w (s : List UInt8) (hs : s.length ≤ 3000000) : VCalls Tryz.prog 258 [.pv (.str s)] [] (RetS cpD2 fun a => smN 64 a.1.tx ∧ a.1.dl.length ≤ 256 ∧ a.1.ix.length ≤ 64) := by
  refine dk Tryz.func258 ?_
  have c1 := rgetn_w s (by omega) 0 2 (by omega) (by omega) (by omega)
  have c2 := rgetn_w s (by omega) 2 4 (by omega) (by omega) (by omega)
  have c3 := rgetn_w s (by omega) 6 4 (by omega) (by omega) (by omega)
  have c4 := fun a h => rgetn_w s (by omega) a 1 (by omega) (by omega) h
  have c8 := fun a h => rgetn_w s (by omega) a 8 (by omega) (by omega) h
  (unfold Tryz.f258; refine rn trivial ?_)
  refine vc_S c1 rfl ?_
  rintro ⟨pg, e1⟩ h1
  refine rn trivial ?_
  refine vc_S c2 rfl ?_
  rintro ⟨nx, e2⟩ h2
  refine rn trivial ?_
  refine vc_S c3 rfl ?_
  rintro ⟨n, e3⟩ h3
  dsimp only at h3
  obtain ⟨n, rfl⟩ : ∃ m : Nat, n = m := ⟨n.toNat, by omega⟩
  have hn : n < 4294967296 := by omega
  clear h3
  have F := trivial
  refine rn F ?_
  repeat' (first
    | with_reducible exact True.intro
    | (refine sG F ?_ ?_ <;> intro hZ)
    | (refine sB F ?_ ?_ <;> intro hZ))
  all_goals first | exact ⟨rfl, rfl, (Cp0, 5), rfl, smN_nil _, Nat.zero_le _, Nat.zero_le _⟩ | skip
  have hns : n + 10 ≤ s.length := by omega
  refine vc_S (c4 (10 + (n : Int)) (by omega)) rfl ?_
  rintro ⟨m, e4⟩ h4
  dsimp only at h4
  obtain ⟨m, rfl⟩ : ∃ k : Nat, m = k := ⟨m.toNat, by omega⟩
  have hm : m < 256 := by omega
  clear h4
  have F := trivial
  refine rn F ?_
  repeat' (first
    | with_reducible exact True.intro
    | (refine sG F ?_ ?_ <;> intro hZ)
    | (refine sB F ?_ ?_ <;> intro hZ))
  all_goals first | exact ⟨rfl, rfl, (Cp0, 5), rfl, smN_nil _, Nat.zero_le _, Nat.zero_le _⟩ | skip
  have hns2 : 11 + n + 17 * m ≤ s.length := by omega
  refine VLoop.nilOwnC 1 3 200 3 rfl rfl ?_
  refine rn trivial ?_
  generalize htx : (s.take (10 + (n : Int)).toNat).drop 10 = txs
  have htl : txs.length ≤ 3000000 := by rw [← htx, List.length_drop, List.length_take]; omega
  refine vloopW (fun r : DtS n m => ⟨130, 0, [(11, .int .i64 r.i), (10, .int .i64 m), (9, .int .i64 r.a), (8, .pv (.str txs)), (4, .ptr 1 0), (2, .ptr 0 0), (0, .pv (.str s))], [⟨219, true, [.int .i64 0, .int .i64 0, .pv (.slc []), .pv (.slc []), .pv (.slc [])]⟩, ⟨219, true, [.int .i64 pg, .int .i64 nx, .pv (.slc []), .own 2 3 0 r.i, .pv (.slc [])]⟩, ⟨200, true, cells encY r.l⟩]⟩) (fun r => m - r.i) ⟨0, 10 + (n : Int) + 1, [], rfl, Nat.zero_le _, by omega⟩ (gc [0, 1, 2]) ?_
  rintro ⟨i, a, l, hl, hi, ha⟩
  dsimp only
  subst hl
  have hb : (l.length + 1) * 24 ≤ 140737488355328 := by omega
  by_cases hil : l.length < m
  · skip
    have F := @hb
    refine rn F ?_
    repeat' (first
      | with_reducible exact True.intro
      | (refine vc_S (c4 a (by omega)) rfl ?_; rintro ⟨a1, e1⟩ h1; refine rn F ?_)
      | (refine vc_S (c8 (a + 1) (by omega)) rfl ?_; rintro ⟨a2, e2⟩ h2; refine rn F ?_)
      | (refine vc_S (c8 (a + 9) (by omega)) rfl ?_; rintro ⟨a3, e3⟩ h3; refine rn F ?_))
    have hl2 : (l ++ [(⟨a1, a2, a3⟩ : Dt)]).length = l.length + 1 := by simp
    clear h1 h2 h3
    refine ⟨⟨l.length + 1, a + 17, l ++ [⟨a1, a2, a3⟩], hl2, hil, by rw [ha]; omega⟩, by dsimp only; omega, ?_⟩
    exact (gc [0, 1, 5])
  obtain rfl : m = l.length := by omega
  have c9 := rtdecode_v txs htl
  have hq : smN 64 (decT txs).1 := by
    unfold decT
    split
    · exact smN_nil _
    split
    · exact smN_nil _
    split
    · exact smN_nil _
    · rename_i h; exact tblB_smN (by simpa using h)
  generalize decT txs = D at *
  obtain ⟨tx, et⟩ := D
  dsimp only at hq
  have ha2 : 0 ≤ a ∧ a ≤ s.length := by omega
  obtain ⟨a, rfl⟩ : ∃ k : Nat, a = k := ⟨a.toNat, by omega⟩
  have hsl : (s.drop a).length ≤ 100000000 := by rw [List.length_drop]; omega
  have hal : a ≤ s.length := by omega
  have F := (And.intro @hb @hal)
  refine rn F ?_
  repeat' (first
    | with_reducible exact True.intro
    | (refine sB F ?_ ?_ <;> intro hZ)
    | refine vp F (c9) ?_
    | (refine vc_S (rixdec_w _ hsl) rfl ?_; rintro ⟨ix, ei⟩ hi2; refine rn F ?_))
  all_goals first | exact ⟨rfl, rfl, (Cp0, _), rfl, smN_nil _, Nat.zero_le _, Nat.zero_le _⟩ | skip
  dsimp only at hi2
  have c10 := rcpvalid_w ⟨pg, nx, tx, l, ix⟩ ⟨hq.mono (by decide), by dsimp only; omega, hi2⟩
  have F := @hb
  refine rn F ?_
  repeat' (first
    | with_reducible exact True.intro
    | (refine sB F ?_ ?_ <;> intro hZ)
    | (refine vc_lendS (c10) ?_ (fun _ => rfl) ?_; (focus (refine rd F)); rintro b -; refine rn F ?_))
  all_goals first
    | exact ⟨rfl, rfl, (Cp0, _), rfl, smN_nil _, Nat.zero_le _, Nat.zero_le _⟩
    | exact ⟨rfl, rfl, (⟨pg, nx, tx, l, ix⟩, 0), rfl, hq, by dsimp only; omega, hi2⟩
    | skip
end Go.Proofs.YtipnkkooklhfgaaGreat

namespace Go.Proofs.YtipnkkooklhfgaaGreat
open Go.V Go
@[go_sem] def ltD (a : Cp × Int × Bool) : DV := .tup [.agg a.1.d, .int .i64 a.2.1, .bool a.2.2]
theorem lgB_ok {x : Lg} (h : lgB x = true) : ∀ i, i < x.es.length → (x.es.getD i E0).blob.length ≤ 8192 := by
  unfold lgB at h
  simp only [Bool.and_eq_true, List.all_eq_true, List.mem_range] at h
  intro i hi
  have := h.2 i hi
  simp only [lgC, Bool.and_eq_true] at this
  exact (okB_lens this.2).2.2
def cpQ (c : Cp) : Prop := smN 64 c.tx ∧ c.dl.length ≤ 256 ∧ c.ix.length ≤ 64
theorem Cp0_q : cpQ Cp0 := ⟨smN_nil _, Nat.zero_le _, Nat.zero_le _⟩
theorem rlatest_w (x : Lg) (hx : x.es.length ≤ 1000000) : VCalls Tryz.prog 253 [.agg x.c] [] (RetS ltD fun a => cpQ a.1) := by
  refine dk Tryz.func253 ?_
  have c1 := rlvalid_v x (by omega)
  (unfold Tryz.f253; refine rn trivial ?_)
  cases hv : lgB x
  · rw [hv] at c1
    have F := trivial
    refine rn F ?_
    repeat' (first
      | with_reducible exact True.intro
      | refine vp F (c1) ?_)
    exact ⟨rfl, rfl, (Cp0, 0, false), rfl, Cp0_q⟩
  rw [hv] at c1
  have hs := lgB_ok hv
  have F := trivial
  refine rn F ?_
  repeat' (first
    | with_reducible exact True.intro
    | refine vp F (c1) ?_)
  refine vloopW (fun r : {r : To x.es.length × Int // r.2 = (r.1.i : Int) - 1} => ⟨47, 0, [(5, .int .i64 r.1.2), (2, .ptr 1 0), (1, .ptr 0 0)], [⟨25, true, x.c⟩, ⟨219, true, Zc⟩]⟩) (fun r => r.1.1.i) ⟨(⟨x.es.length, Nat.le_refl _⟩, (x.es.length : Int) - 1), rfl⟩ (gc [0, 1]) ?_
  rintro ⟨⟨⟨k, hk⟩, j⟩, hj⟩
  dsimp only at hj ⊢
  unfold Zc
  by_cases h0 : k = 0
  · subst h0
    have hj2 : ¬ j ≥ 0 := by omega
    have F := @hj2
    refine rn F ?_
    exact ⟨rfl, rfl, (Cp0, 0, false), rfl, Cp0_q⟩
  obtain ⟨i, rfl⟩ : ∃ i, k = i + 1 := ⟨k - 1, by omega⟩
  obtain rfl : j = (i : Int) := by omega
  have hg := fzE_g x.es i (by omega)
  have hb := hs i (by omega)
  have c2 := rcpdec_w (x.es.getD i E0).blob (by omega)
  have F := @hg
  refine rn F ?_
  repeat' (first
    | with_reducible exact True.intro
    | (refine sB F ?_ ?_ <;> intro hZ)
    | (refine vc_S (c2) rfl ?_; rintro ⟨c, e⟩ hc; refine rn F ?_)
    | (refine vspine (id := 9) [0, 1, 2, 3, 4, 5, 6] [⟨[], [], 7, [1, 2, 3, 4, 5, 6], []⟩, ⟨[], [], 8, [], []⟩, ⟨[], [], 9, [], []⟩] (by kernel_rfl) (by kernel_rfl) ?_; refine rn F ?_))
  all_goals first
    | exact ⟨⟨(⟨i, by omega⟩, (i : Int) - 1), rfl⟩, by dsimp only; omega, (gc [0, 1])⟩
    | exact ⟨rfl, rfl, (c, _, true), rfl, hc⟩
    | skip
end Go.Proofs.YtipnkkooklhfgaaGreat

namespace Go.Proofs.YtipnkkooklhfgaaGreat
open Go.V Go
structure DyS (n : Nat) where
  i : Nat
  d : Bool
  out : List Dt
  hi : i ≤ n
  ho : out.length ≤ i + d.toNat
@[go_sem] def dtL (l : List Dt) : DV := .pv (.sl (fz encY l))
theorem rdirty_w (l : List Dt) (hl : l.length ≤ 1000000) (e : E) : VCalls Tryz.prog 254 [.pv (.sl (fz encY l)), .agg e.d] [] (RetS dtL fun m => m.length ≤ l.length + 1) := by
  refine dk Tryz.func254 ?_
  have c1 := rchanges_v e
  generalize (e.kind == 1 || e.kind == 2) = ch at *
  (unfold Tryz.f254; refine rn trivial ?_)
  have F := trivial
  refine rn F ?_
  repeat' (first
    | with_reducible exact True.intro
    | (refine sG F ?_ ?_ <;> intro hZ)
    | (refine sB F ?_ ?_ <;> intro hZ)
    | refine vp F (c1) ?_)
  all_goals first
    | exact ⟨rfl, rfl, l, rfl, Nat.le_succ _⟩
    | skip
  all_goals
    refine VLoop.nilOwn 5 200 3 rfl ?_
    refine vloopW (fun s : DyS l.length => ⟨100, 0, [(7, .int .i64 s.i), (6, .bool s.d), (5, .own 1 3 0 s.out.length), (3, .ptr 0 0), (0, .pv (.sl (fz encY l)))], [⟨31, true, e.d⟩, ⟨200, true, cells encY s.out⟩]⟩) (fun s => l.length - s.i) ⟨0, false, [], Nat.zero_le _, Nat.zero_le _⟩ (gc [0, 1]) ?_
    rintro ⟨i, d, out, hi, ho⟩
    dsimp only
    have hg := fun h : i < l.length => fzY_at l i h
    generalize l.getD i Dt0 = x at *
    have ho3 : out.length ≤ i + 1 := Nat.le_trans ho (Nat.add_le_add_left (Bool.toNat_le d) i)
    have hb1 : (out.length + 1) * 24 ≤ 140737488355328 := Nat.le_trans (Nat.mul_le_mul_right 24 (show out.length + 1 ≤ 1000002 by omega)) (by decide)
    have hb2 : (out.length + 1 + 1) * 24 ≤ 140737488355328 := Nat.le_trans (Nat.mul_le_mul_right 24 (show out.length + 1 + 1 ≤ 1000003 by omega)) (by decide)
    cases d
  all_goals first | simp only [Bool.toNat_false, Nat.add_zero] at ho | simp only [Bool.toNat_true] at ho
  all_goals
    have F := (And.intro @hg (And.intro @hb1 @hb2))
    refine rn F ?_
    repeat' (first
      | with_reducible exact True.intro
      | (refine sG F ?_ ?_ <;> intro hZ)
      | (refine sB F ?_ ?_ <;> intro hZ)
      | refine vp F (c1) ?_)
  all_goals first
    | exact ⟨rfl, rfl, out, rfl, by omega⟩
    | exact ⟨rfl, rfl, _, rfl, by simp; omega⟩
    | exact ⟨⟨i + 1, false, out, by omega, by simp; omega⟩, by dsimp only; omega, (gc [0, 1])⟩
    | exact ⟨⟨i + 1, true, out, by omega, by simp; omega⟩, by dsimp only; omega, (gc [0, 1])⟩
    | (refine ⟨⟨i + 1, false, out ++ [⟨x.pg, x.rc, x.last⟩], by omega, by simp; omega⟩, by dsimp only; omega, ?_⟩; dsimp only; rw [List.length_append]; exact (gc [0, 4]))
    | (refine ⟨⟨i + 1, true, out ++ [⟨x.pg, x.rc, x.last⟩], by omega, by simp; omega⟩, by dsimp only; omega, ?_⟩; dsimp only; rw [List.length_append]; exact (gc [0, 4]))
    | (refine ⟨⟨i + 1, true, out ++ [⟨e.c.pg, e.lsn, e.lsn⟩] ++ [⟨x.pg, x.rc, x.last⟩], by omega, by simp; omega⟩, by dsimp only; omega, ?_⟩; dsimp only; rw [List.length_append, List.length_append]; exact (gc [0, 6]))
    | (refine ⟨⟨i + 1, false, out ++ [⟨x.pg, x.rc, e.lsn⟩], by omega, by simp; omega⟩, by dsimp only; omega, ?_⟩; dsimp only; rw [List.length_append]; exact (gc [0, 4]))
    | (refine ⟨⟨i + 1, true, out ++ [⟨x.pg, x.rc, e.lsn⟩], by omega, by simp; omega⟩, by dsimp only; omega, ?_⟩; dsimp only; rw [List.length_append]; exact (gc [0, 4]))
    | (refine ⟨⟨i + 1, true, out ++ [⟨e.c.pg, e.lsn, e.lsn⟩] ++ [⟨x.pg, x.rc, e.lsn⟩], by omega, by simp; omega⟩, by dsimp only; omega, ?_⟩; dsimp only; rw [List.length_append, List.length_append]; exact (gc [0, 6]))
    | (refine ⟨⟨i + 1, false, out ++ [⟨x.pg, IntKind.i64.wrap (e.ref + 1), x.last⟩], by omega, by simp; omega⟩, by dsimp only; omega, ?_⟩; dsimp only; rw [List.length_append]; exact (gc [0, 4]))
    | (refine ⟨⟨i + 1, true, out ++ [⟨x.pg, IntKind.i64.wrap (e.ref + 1), x.last⟩], by omega, by simp; omega⟩, by dsimp only; omega, ?_⟩; dsimp only; rw [List.length_append]; exact (gc [0, 4]))
    | (refine ⟨⟨i + 1, true, out ++ [⟨e.c.pg, e.lsn, e.lsn⟩] ++ [⟨x.pg, IntKind.i64.wrap (e.ref + 1), x.last⟩], by omega, by simp; omega⟩, by dsimp only; omega, ?_⟩; dsimp only; rw [List.length_append, List.length_append]; exact (gc [0, 6]))
    | skip
end Go.Proofs.YtipnkkooklhfgaaGreat

namespace Go.Proofs.YtipnkkooklhfgaaGreat
open Go.V Go
theorem rless_w (a b : Gr) : VCalls Tryz.prog 259 [.agg a.d, .agg b.d] [] (RetS boD fun _ => True) := by
  refine dd Tryz.func259 ?_
  (unfold Tryz.f259; refine rn trivial ?_)
  have F := trivial
  refine rn F ?_
  repeat' (first
    | with_reducible exact True.intro
    | (refine sB F ?_ ?_ <;> intro hZ))
  all_goals exact ⟨rfl, rfl, _, rfl, trivial⟩
@[go_sem] def grL (l : List Gr) : DV := .pv (.sl (fz encG l))
theorem rwith16_w (l : List Gr) (hl : l.length ≤ 10000000) (g : Gr) : VCalls Tryz.prog 255 [.pv (.sl (fz encG l)), .agg g.d] [] (RetS grL fun m => m.length ≤ l.length + 1) := by
  refine dk Tryz.func255 ?_
  have c1 := fun a => rless_w a g
  (unfold Tryz.f255; refine rn trivial ?_)
  refine vloopW (fun s : To l.length => ⟨44, 0, [(5, .int .i64 s.i), (3, .ptr 0 0), (0, .pv (.sl (fz encG l)))], [⟨230, true, g.d⟩]⟩) (fun s => l.length - s.i) ⟨0, Nat.zero_le _⟩ (gc [0]) ?_
  rintro ⟨i, hi⟩
  dsimp only
  have hg := fun h : i < l.length => fzG_at l i h
  by_cases hil : i < l.length
  · have hg := fzG_at l i hil
    have c2 := rless_w (l.getD i Gr0) g
    generalize l.getD i Gr0 = x at *
    have he := allEq4 x.tx x.pg x.sl x.md g.tx g.pg g.sl g.md
    have hb : (i + 1 + (l.length - i)) * 32 ≤ 140737488355328 := by omega
    have F := (And.intro @hg (And.intro @he @hb))
    refine rn F ?_
    repeat' (first
      | with_reducible exact True.intro
      | (refine sB F ?_ ?_ <;> intro hZ)
      | (refine vc_S (c2) rfl ?_; rintro b -; refine rn F ?_)
      | (refine vspine (id := 2) [0, 1, 2, 3, 4, 5, 6, 7, 8, 9] [⟨[], [], 10, [0, 1, 2, 3, 5, 6, 7], [11]⟩] (by kernel_rfl) (by kernel_rfl) ?_; refine rn F ?_)
      | (refine vspine (id := 4) [0, 1, 2, 3, 4, 5, 6, 7, 8, 9, 10, 11] [] (by kernel_rfl) (by kernel_rfl) ?_; refine rn F ?_)
      | (refine vspine (id := 6) [0, 1, 2, 4, 7, 8, 9] [⟨[5], [], 3, [0, 1, 4, 7, 8, 9], []⟩, ⟨[5], [5], 6, [0, 1, 2, 4, 7, 8, 9], []⟩, ⟨[], [], 10, [0, 1, 2, 4, 7, 8], []⟩, ⟨[], [], 11, [], []⟩] (by kernel_rfl) (by kernel_rfl) ?_; refine rn F ?_))
    all_goals first
      | exact ⟨⟨i + 1, by omega⟩, by dsimp only; omega, (gc [0])⟩
      | exact ⟨rfl, rfl, l, rfl, Nat.le_succ _⟩
      | exact ⟨rfl, rfl, _, rfl, by simp; omega⟩
      | skip
  · skip
    have F := trivial
    refine rn F ?_
    repeat' (first
      | with_reducible exact True.intro
      | (refine vspine (id := 2) [0, 1, 2, 3, 4, 5, 6, 7, 8, 9] [⟨[], [], 10, [0, 1, 2, 3, 5, 6, 7], [11]⟩] (by kernel_rfl) (by kernel_rfl) ?_; refine rn F ?_)
      | (refine vspine (id := 4) [0, 1, 2, 3, 4, 5, 6, 7, 8, 9, 10, 11] [] (by kernel_rfl) (by kernel_rfl) ?_; refine rn F ?_)
      | (refine vspine (id := 6) [0, 1, 2, 4, 7, 8, 9] [⟨[5], [], 3, [0, 1, 4, 7, 8, 9], []⟩, ⟨[5], [5], 6, [0, 1, 2, 4, 7, 8, 9], []⟩, ⟨[], [], 10, [0, 1, 2, 4, 7, 8], []⟩, ⟨[], [], 11, [], []⟩] (by kernel_rfl) (by kernel_rfl) ?_; refine rn F ?_))
    exact ⟨rfl, rfl, _, rfl, by simp; omega⟩
end Go.Proofs.YtipnkkooklhfgaaGreat

namespace Go.Proofs.YtipnkkooklhfgaaGreat
open Go.V Go
@[go_sem] def lkR (a : List Gr × Int) : DV := .tup [.pv (.sl (fz encG a.1)), .int .i64 a.2]
structure LkO (n : Nat) where
  i : Nat
  out : List Gr
  hi : i ≤ n
  ho : out.length ≤ 100000 * i
structure LkI (n i : Nat) where
  k : Nat
  out : List Gr
  hk : k ≤ n
  ho : out.length ≤ 100000 * i + k
theorem rlocks_w (x : Lg) (hx : x.es.length ≤ 1000000) (l : List Tx) (hl : smN 65 l) : VCalls Tryz.prog 228 [.agg x.c, .pv (.sl (fz encT l))] [] (RetS lkR fun a => a.1.length ≤ 6500000) := by
  refine dk Tryz.func228 ?_
  have h65 := hl.1
  (unfold Tryz.f228; refine rn trivial ?_)
  refine VLoop.wkS ?_
  refine rn trivial ?_
  refine vloopW (fun s : LkO l.length => ⟨68, 0, [(7, .int .i64 s.i), (6, .pv (.sl (fz encG s.out))), (2, .ptr 0 0), (1, .pv (.sl (fz encT l)))], [⟨25, true, x.c⟩]⟩) (fun s => l.length - s.i) ⟨0, [], Nat.zero_le _, Nat.zero_le _⟩ (gc [0]) ?_
  rintro ⟨i, out, hi, ho⟩
  dsimp only
  by_cases hil : i < l.length
  rotate_left
  · skip
    have F := trivial
    refine rn F ?_
    exact ⟨rfl, rfl, (out, 0), rfl, by dsimp only; omega⟩
  have hg := fzT_g l i hil
  have hss : (l.getD i Tx0).l.length ≤ 100000 := by rw [getD_eq _ _ hil]; exact (hl.2 _ (List.getElem_mem hil)).1
  generalize l.getD i Tx0 = t at *
  have F := trivial
  refine rn F ?_
  refine vloopW (fun s : LkI t.l.length i => ⟨68, 0, [(8, .int .i64 s.k), (7, .int .i64 i), (6, .pv (.sl (fz encG s.out))), (2, .ptr 0 0), (1, .pv (.sl (fz encT l)))], [⟨25, true, x.c⟩]⟩) (fun s => t.l.length - s.k) ⟨0, out, Nat.zero_le _, ho⟩ (gc [0]) ?_
  rintro ⟨k, out2, hk, ho2⟩
  dsimp only
  by_cases hkl : k < t.l.length
  rotate_left
  · skip
    have F := @hg
    refine rn F ?_
    exact ⟨⟨i + 1, out2, hil, by rw [Nat.mul_succ]; omega⟩, by dsimp only; omega, (gc [0])⟩
  have hg2 := fzI_get t.l k hkl
  have c1 := rget_e x (by omega) (t.l.getD k 0)
  generalize getE x (t.l.getD k 0) = r at *
  obtain ⟨e, f⟩ := r
  dsimp only at c1
  have c2 := rwith16_w out2 (by omega) ⟨e.tx, e.c.pg, e.c.sl, 2⟩
  have F := (And.intro @hg @hg2)
  refine rn F ?_
  repeat' (first
    | with_reducible exact True.intro
    | (refine sG F ?_ ?_ <;> intro hZ)
    | (refine sB F ?_ ?_ <;> intro hZ)
    | refine vp F (c1) ?_
    | (refine vc_S (c2) rfl ?_; rintro m hm; refine rn F ?_)
    | (refine vspine (id := 8) [0, 1, 2, 3, 4, 5, 6, 7, 8] [⟨[13], [], 9, [1, 2, 3, 4, 5, 6, 7], [10, 11, 12]⟩, ⟨[13], [13], 14, [12], []⟩, ⟨[], [], 15, [], []⟩] (by kernel_rfl) (by kernel_rfl) ?_; refine rn F ?_)
    | (refine vspine (id := 11) [0, 1, 2, 3, 4, 5, 6, 7, 8, 9, 10, 11, 12] [] (by kernel_rfl) (by kernel_rfl) ?_; refine rn F ?_))
  all_goals first
    | exact ⟨rfl, rfl, ([], _), rfl, Nat.zero_le _⟩
    | exact ⟨⟨k + 1, m, hkl, by omega⟩, by dsimp only; omega, (gc [0])⟩
    | skip
end Go.Proofs.YtipnkkooklhfgaaGreat

namespace Go.Proofs.YtipnkkooklhfgaaGreat
open Go.V Go
structure An where
  pg : Int
  nx : Int
  cp : Int
  lo : List Tx
  lk : List Gr
  la : List Dt
  ix : List Rw
@[go_sem] def An.d (a : An) : List DV := [.int .i64 a.pg, .int .i64 a.nx, .int .i64 a.cp, .pv (.sl (fz encT a.lo)), .pv (.sl (fz encG a.lk)), .pv (.sl (fz encY a.la)), .pv (.sl (fz encR a.ix))]
def An0 : An := ⟨0, 0, 0, [], [], [], []⟩
def An.sm (a : An) (n : Nat) : Prop := smN 65 a.lo ∧ a.lk.length ≤ 6500000 ∧ a.la.length ≤ n ∧ a.ix.length ≤ 64
theorem An0_sm (n : Nat) : An0.sm n := ⟨smN_nil _, Nat.zero_le _, Nat.zero_le _, Nat.zero_le _⟩
@[go_sem] def anD (a : An × Int) : DV := .tup [.agg a.1.d, .int .i64 a.2]
theorem rnote16_w (a : An) (n : Nat) (hn : n ≤ 100000) (ha : a.sm n) (e : E) : VCalls Tryz.prog 227 [.agg a.d, .agg e.d] [] (RetS anD fun r => r.1.sm (n + 1)) := by
  refine dk Tryz.func227 ?_
  obtain ⟨h1, h2, h3, h4⟩ := ha
  have hl := h1.1
  have c1 := rfind_v a.lo (by omega) e.tx
  have c2 := rbegin_v a.lo (h1.smL (by omega)) e.tx
  have c3 := rnote_v a.lo (h1.smL (by omega)) e
  have hs2 := beginS_sm (l := a.lo) e.tx
  have hs3 := noteS_sm (l := a.lo) e
  have c4 := rnote_v (beginS a.lo e.tx).1 (hs2.smL (by omega)) e
  have hs4 := noteS_sm (l := (beginS a.lo e.tx).1) e
  have c5 := rixnote_v a.ix (by omega) e
  have h5 := noteR_len a.ix e h4
  have c6 := rchanges_v e
  have c7 := rdirty_w a.la (by omega) e
  generalize noteS (beginS a.lo e.tx).1 e = N2 at *
  generalize beginS a.lo e.tx = B at *
  generalize noteS a.lo e = N1 at *
  generalize noteR a.ix e = R at *
  generalize (e.kind == 1 || e.kind == 2) = ch at *
  generalize idT a.lo e.tx = f at *
  obtain ⟨b, eb⟩ := B
  obtain ⟨n1, e1⟩ := N1
  obtain ⟨n2, e2⟩ := N2
  obtain ⟨r, er⟩ := R
  dsimp only at *
  have old : ∀ z, RetS anD (fun r => r.1.sm (n + 1)) (anD (a, z)) [] := fun z => ⟨rfl, rfl, (a, z), rfl, h1, h2, by dsimp only; omega, h4⟩
  (unfold Tryz.f227; refine rn trivial ?_)
  have F := trivial
  refine rn F ?_
  repeat' (first
    | with_reducible exact True.intro
    | (refine sG F ?_ ?_ <;> intro hZ)
    | (refine sB F ?_ ?_ <;> intro hZ)
    | refine vp F (c1) ?_
    | refine vp F (c2) ?_
    | refine vp F (c3) ?_
    | refine vp F (c4) ?_
    | refine vp F (c5) ?_
    | refine vp F (c6) ?_
    | (refine vc_S (c7) rfl ?_; rintro la hla; refine rn F ?_))
  all_goals first
    | exact old _
    | exact ⟨rfl, rfl, (⟨a.pg, _, a.cp, b, a.lk, a.la, a.ix⟩, _), rfl, hs2, h2, by dsimp only; omega, h4⟩
    | exact ⟨rfl, rfl, (⟨a.pg, _, a.cp, n1, a.lk, a.la, a.ix⟩, _), rfl, hs3, h2, by dsimp only; omega, h4⟩
    | exact ⟨rfl, rfl, (⟨a.pg, _, a.cp, n1, a.lk, a.la, r⟩, _), rfl, hs3, h2, by dsimp only; omega, h5⟩
    | exact ⟨rfl, rfl, (⟨a.pg, _, a.cp, n1, a.lk, la, r⟩, _), rfl, hs3, h2, Nat.le_trans hla (Nat.succ_le_succ h3), h5⟩
    | exact ⟨rfl, rfl, (⟨a.pg, _, a.cp, n2, a.lk, a.la, a.ix⟩, _), rfl, hs4, h2, by dsimp only; omega, h4⟩
    | exact ⟨rfl, rfl, (⟨a.pg, _, a.cp, n2, a.lk, a.la, r⟩, _), rfl, hs4, h2, by dsimp only; omega, h5⟩
    | exact ⟨rfl, rfl, (⟨a.pg, _, a.cp, n2, a.lk, la, r⟩, _), rfl, hs4, h2, Nat.le_trans hla (Nat.succ_le_succ h3), h5⟩
end Go.Proofs.YtipnkkooklhfgaaGreat

namespace Go.Proofs.YtipnkkooklhfgaaGreat
open Go.V Go
theorem rbegin16_w (x : Lg) (hx : x.es.length ≤ 1000000) (n : Int) : VCalls Tryz.prog 226 [.agg x.c, .int .i64 n] [] (RetS anD fun r => r.1.sm 256) := by
  refine dk Tryz.func226 ?_
  have c1 := rlatest_w x hx
  have c2 := rixnew_w n
  (unfold Tryz.f226; refine rn trivial ?_)
  have F := trivial
  refine rn F ?_
  repeat' (first
    | with_reducible exact True.intro
    | (refine sB F ?_ ?_ <;> intro hZ)
    | (refine vc_S (c1) rfl ?_; rintro ⟨c, at_, ok⟩ hc; refine rn F ?_)
    | (refine vc_S (c2) rfl ?_; rintro ⟨ix, e⟩ hi; refine rn F ?_))
  all_goals first
    | exact ⟨rfl, rfl, (An0, 24), rfl, An0_sm _⟩
    | exact ⟨rfl, rfl, (⟨n, 1, 0, [], [], [], ix⟩, 0), rfl, smN_nil _, Nat.zero_le _, Nat.zero_le _, hi⟩
    | exact ⟨rfl, rfl, (⟨n, c.nx, at_, c.tx, [], c.dl, c.ix⟩, 0), rfl, hc.1.mono (by decide), Nat.zero_le _, hc.2.1, hc.2.2⟩
    | skip
end Go.Proofs.YtipnkkooklhfgaaGreat

namespace Go.Proofs.YtipnkkooklhfgaaGreat
open Go.V Go
attribute [local go_sem] lenT allT appT slkT srcT frzT app_T bodyc headc_seq headc_zero restc_seq restc_zero
structure AnS (x : Lg) where
  i : Nat
  a : An
  hi : i ≤ x.es.length
  ha : a.sm (256 + i)
structure LoS (l : List Tx) where
  i : Nat
  out : List Tx
  hi : i ≤ l.length
  ho : out.length ≤ i
  hs : ∀ t ∈ out, t.ss
def Za : List DV := [.int .i64 0, .int .i64 0, .int .i64 0, .pv (.slc []), .pv (.slc []), .pv (.slc []), .pv (.slc [])]
theorem analyse_tail (x : Lg) (hx : x.es.length ≤ 4096) (a : An) (ha : a.sm 10000) (out : List Tx) (ho : smN 65 out) : VWp Tryz.prog (restc 8 (bodyc Tryz.f186)) (vpostK Tryz.prog [ResultVar.cell 4 269, ResultVar.tmp 5] 0 (RetS anD fun r => r.1.sm 10000)) ⟨98, 0, [(9, .pv (.sl (fz encT out))), (6, .ptr 2 0), (4, .ptr 1 0), (2, .ptr 0 0)], [⟨25, true, x.c⟩, ⟨269, true, Za⟩, ⟨269, true, a.d⟩]⟩ := by
  refine vcode_sound _ _ _ ?_
  have c4 := rlocks_w x (by omega) out ho
  unfold Za
  (unfold Tryz.f186; refine rn trivial ?_)
  have F := trivial
  refine rn F ?_
  repeat' (first
    | with_reducible exact True.intro
    | (refine sB F ?_ ?_ <;> intro hZ)
    | (refine vc_S (c4) rfl ?_; rintro ⟨lk, e⟩ hlk; refine rn F ?_))
  · exact ⟨rfl, rfl, (An0, _), rfl, An0_sm _⟩
  · exact ⟨rfl, rfl, (⟨a.pg, a.nx, a.cp, out, lk, a.la, a.ix⟩, 0), rfl, ho, hlk, ha.2.2.1, ha.2.2.2⟩
theorem ranalyse_w (x : Lg) (hx : x.es.length ≤ 4096) (n : Int) : VCalls Tryz.prog 186 [.agg x.c, .int .i64 n] [] (RetS anD fun r => r.1.sm 10000) := by
  refine vcalls_dropW (fn := Tryz.f186) (c := bodyc Tryz.f186) Tryz.func186 rfl (by kernel_rfl) (by simp [Tryz.f186]) (VWp.postK ?_)
  refine vcut 8 ?_
  have tail := fun a ha out ho => analyse_tail x hx a ha out ho
  generalize restc 8 (bodyc Tryz.f186) = rest at *
  have c1 := rlvalid_v x (by omega)
  have c2 := rbegin16_w x (by omega) n
  generalize lgB x = ok at *
  have err : ∀ z, RetS anD (fun r => r.1.sm 10000) (anD (An0, z)) [] := fun z => ⟨rfl, rfl, (An0, z), rfl, An0_sm _⟩
  (unfold Tryz.f186; refine rn trivial ?_)
  have F := trivial
  refine rn F ?_
  repeat' (first
    | with_reducible exact True.intro
    | (refine sG F ?_ ?_ <;> intro hZ)
    | (refine sB F ?_ ?_ <;> intro hZ)
    | refine vp F (c1) ?_
    | (refine vc_S (c2) rfl ?_; rintro ⟨a0, e0⟩ h0; refine rn F ?_))
  all_goals first | exact err _ | skip
  dsimp only at h0
  refine vloopW (fun s : AnS x => ⟨98, 0, [(8, .int .i64 s.i), (6, .ptr 2 0), (4, .ptr 1 0), (2, .ptr 0 0)], [⟨25, true, x.c⟩, ⟨269, true, Za⟩, ⟨269, true, s.a.d⟩]⟩) (fun s => x.es.length - s.i) ⟨0, a0, Nat.zero_le _, h0⟩ (gc [0, 1, 2]) ?_
  rintro ⟨i, a, hi, ha⟩
  dsimp only
  unfold Za
  by_cases hil : i < x.es.length
  · have hg := fzE_g x.es i hil
    have c3 := rnote16_w a (256 + i) (by omega) ha (x.es.getD i E0)
    generalize x.es.getD i E0 = e at *
    have F := @hg
    refine rn F ?_
    repeat' (first
      | with_reducible exact True.intro
      | (refine sB F ?_ ?_ <;> intro hZ)
      | (refine vc_S (c3) rfl ?_; rintro ⟨a1, e1⟩ h1; refine rn F ?_)
      | (refine vspine (id := 11) [0, 1, 2, 3, 4, 5, 6, 7, 8] [] (by kernel_rfl) (by kernel_rfl) ?_; refine rn F ?_)
      | (refine vspine (id := 12) [0, 1, 2, 3, 4, 5] [⟨[], [], 6, [1, 2, 3, 4], [7, 8, 9]⟩, ⟨[], [], 10, [9], []⟩, ⟨[], [], 11, [], []⟩] (by kernel_rfl) (by kernel_rfl) ?_; refine rn F ?_))
    all_goals first
      | exact err _
      | exact ⟨⟨i + 1, a, hil, ha.1, ha.2.1, Nat.le_succ_of_le ha.2.2.1, ha.2.2.2⟩, by dsimp only; omega, (gc [0, 1, 2])⟩
      | exact ⟨⟨i + 1, a1, hil, h1⟩, by dsimp only; omega, (gc [0, 1, 2])⟩
      | skip
  have F := trivial
  refine rn F ?_
  refine VLoop.nilOwn 9 226 6 rfl ?_
  have hlo := ha.1.1
  refine vloopW (fun s : LoS a.lo => ⟨98, 0, [(10, .int .i64 s.i), (9, .own 3 6 0 s.out.length), (6, .ptr 2 0), (4, .ptr 1 0), (2, .ptr 0 0)], [⟨25, true, x.c⟩, ⟨269, true, Za⟩, ⟨269, true, a.d⟩, ⟨226, true, cells encT s.out⟩]⟩) (fun s => a.lo.length - s.i) ⟨0, [], Nat.zero_le _, Nat.zero_le _, fun t h => by simp at h⟩ (gc [0, 1, 2, 3]) ?_
  rintro ⟨k, out, hk, ho, hs⟩
  dsimp only
  unfold Za
  by_cases hkl : k < a.lo.length
  · have hg := fzT_g a.lo k hkl
    have hss : (a.lo.getD k Tx0).ss := by rw [getD_eq _ _ hkl]; exact ha.1.2 _ (List.getElem_mem hkl)
    have hb : (out.length + 1) * 80 ≤ 140737488355328 := Nat.le_trans (Nat.mul_le_mul_right 80 (show out.length + 1 ≤ 1000 by omega)) (by decide)
    generalize a.lo.getD k Tx0 = t at *
    have F := (And.intro @hg @hb)
    refine rn F ?_
    repeat' (first
      | with_reducible exact True.intro
      | (refine sB F ?_ ?_ <;> intro hZ))
    · have hl2 : (out ++ [t]).length = out.length + 1 := by simp
      refine ⟨⟨k + 1, out ++ [t], hkl, by rw [hl2]; omega, fun z hz => ?_⟩, by dsimp only; omega, ?_⟩
      · rcases List.mem_append.1 hz with h | h
        · exact hs z h
        · rw [List.mem_singleton.1 h]; exact hss
      dsimp only
      rw [hl2]
      exact (gc [0, 1, 2, 5])
    · exact ⟨⟨k + 1, out, hkl, by omega, hs⟩, by dsimp only; omega, (gc [0, 1, 2, 3])⟩
  have hsm : smN 65 out := ⟨by omega, hs⟩
  have F := trivial
  refine rn F ?_
  refine ⟨⟨98, 0, [(9, .pv (.sl (fz encT out))), (6, .ptr 2 0), (4, .ptr 1 0), (2, .ptr 0 0)], [⟨25, true, x.c⟩, ⟨269, true, Za⟩, ⟨269, true, a.d⟩]⟩, .fzN (n := 3) ⟨rfl, rfl, Nat.zero_le _, by simp, ?_, ?_⟩, tail a (by have := ha; exact ⟨this.1, this.2.1, Nat.le_trans this.2.2.1 (by omega), this.2.2.2⟩) out hsm⟩
  · rfl
  · refine ⟨?_, rfl, rfl, rfl, trivial⟩
    (refine rn trivial ?_; try with_reducible exact True.intro)
end Go.Proofs.YtipnkkooklhfgaaGreat

namespace Go.Proofs.YtipnkkooklhfgaaGreat
open Go.V Go
attribute [local go_sem] iteLe
structure Rd where
  tx : Int
  pg : Int
  sl : Int
  at_ : Int
  cell : Ce
def encO : Enc Rd := ⟨6, fun r => [.lit (.int .i64 r.tx), .lit (.int .i64 r.pg), .lit (.int .i64 r.sl), .lit (.int .i64 r.at_), .lit (.bool r.cell.set), .str r.cell.data], by decide, fun _ => rfl⟩
theorem lenO (l : List Rd) : (cells encO l).length = l.length * 6 := cells_len encO l
theorem allO (l : List Rd) (n : Nat) (h : l.length * 6 ≤ n) : (cells encO l).take n = cells encO l := by rw [List.take_of_length_le]; rw [lenO]; exact h
theorem frzO {n : Nat} {hp : Heap} {len : Nat} {l : List Rd} (h : l.length = len) : frzC n hp 0 6 len (some (cells encO l)) = some (.sl (fz encO l)) := frzC_cells encO h
theorem app_O (l : List Rd) (a b c d : Int) (x : Bool) (s : List UInt8) : cells encO l ++ [.pv (.lit (.int .i64 a)), .pv (.lit (.int .i64 b)), .pv (.lit (.int .i64 c)), .pv (.lit (.int .i64 d)), .pv (.lit (.bool x)), .pv (.str s)] = cells encO (l ++ [⟨a, b, c, d, ⟨x, s⟩⟩]) := by rw [cells_app]; rfl
attribute [go_sem] lenO allO frzO app_O
structure Sp where
  kind : Int
  tx : Int
  pg : Int
  torn : Int
  cut : Int
  a : Ac
@[go_sem] def Sp.d (t : Sp) : List DV := [.int .i64 t.kind, .int .i64 t.tx, .int .i64 t.pg, .int .i64 t.torn, .int .i64 t.cut, .int .i64 t.a.kind, .int .i64 t.a.pg, .int .i64 t.a.sl, .pv (.str t.a.data)]
structure Sc where
  s : Sv
  tx : List Int
  rd : List Rd
  dead : Bool
def Sc.sm (c : Sc) (n : Nat) : Prop := c.s.sm ∧ c.tx.length ≤ n ∧ c.rd.length ≤ n
@[go_sem] def scB (c : Sc) (i j : Nat) : Blk := ⟨154, true, c.s.d ++ [.own i 1 0 c.tx.length, .own j 6 0 c.rd.length, .bool c.dead]⟩
@[go_sem] def scT (l : List Int) : Blk := ⟨3, true, cells encI l⟩
@[go_sem] def scR (l : List Rd) : Blk := ⟨185, true, cells encO l⟩
@[go_sem] def deadI : Blk := ⟨3, false, []⟩
@[go_sem] def deadO : Blk := ⟨185, false, []⟩
def ScEnd {α : Type} (f : α → DV) (Q : Nat → Sc → α → Prop) : DV → Heap → Prop := fun r h' => ∃ c a B, r = f a ∧ (f a).nums (fun _ => false) = true ∧ ((Q 0 c a ∧ h' = scB c 1 2 :: scT c.tx :: scR c.rd :: [B]) ∨ (Q 1 c a ∧ h' = scB c 3 2 :: deadI :: scR c.rd :: scT c.tx :: [B]) ∨ (Q 2 c a ∧ h' = scB c 1 3 :: scT c.tx :: deadO :: scR c.rd :: [B]))
theorem ScEnd.mono {α : Type} {f : α → DV} {Q Q' : Nat → Sc → α → Prop} (h : ∀ n c a, Q n c a → Q' n c a) : ∀ r h', ScEnd f Q r h' → ScEnd f Q' r h'
  | _, _, ⟨c, a, B, e1, e2, .inl ⟨q, e⟩⟩ => ⟨c, a, B, e1, e2, .inl ⟨h _ _ _ q, e⟩⟩
  | _, _, ⟨c, a, B, e1, e2, .inr (.inl ⟨q, e⟩)⟩ => ⟨c, a, B, e1, e2, .inr (.inl ⟨h _ _ _ q, e⟩)⟩
  | _, _, ⟨c, a, B, e1, e2, .inr (.inr ⟨q, e⟩)⟩ => ⟨c, a, B, e1, e2, .inr (.inr ⟨h _ _ _ q, e⟩)⟩
theorem vc_sc {α : Type} {f : α → DV} {Q : Nat → Sc → α → Prop} {P : Program} {g : FuncId} {args args0 : List DV} {hp : Heap} {K : DV → Heap → Prop} {c : Sc} (k0 k1 k2 : Nat) (cc : VCalls P g args0 [scB c 1 2, scT c.tx, scR c.rd] (ScEnd f Q)) (hk0 : hp[k0]? = some (scB c k1 k2)) (hk1 : hp[k1]? = some (scT c.tx)) (hk2 : hp[k2]? = some (scR c.rd)) (n01 : k0 ≠ k1) (n02 : k0 ≠ k2) (n12 : k1 ≠ k2)
    (ha0 : args0 = args.map (DV.ren fun j => [k0, k1, k2].idxOf j)) (ha : DV.nums.go [k0, k1, k2].contains args = true)
    (hN : ∀ c a, Q 0 c a → ∀ B, K (f a) (((hp.set k0 (scB c k1 k2)).set k1 (scT c.tx)).set k2 (scR c.rd) ++ [B]))
    (hT : ∀ c a, Q 1 c a → ∀ B, K (f a) (((hp.set k0 (scB c hp.length k2)).set k1 deadI).set k2 (scR c.rd) ++ scT c.tx :: [B]))
    (hR : ∀ c a, Q 2 c a → ∀ B, K (f a) (((hp.set k0 (scB c k1 hp.length)).set k1 (scT c.tx)).set k2 deadO ++ scR c.rd :: [B])) : VCalls P g args hp K := by
  have l0 : k0 < hp.length := (List.getElem?_eq_some_iff.1 hk0).1
  have l1 : k1 < hp.length := (List.getElem?_eq_some_iff.1 hk1).1
  have l2 : k2 < hp.length := (List.getElem?_eq_some_iff.1 hk2).1
  have q1 : (k0 == k1) = false := by simp [n01]
  have q2 : (k0 == k2) = false := by simp [n02]
  have q3 : (k1 == k2) = false := by simp [n12]
  have rt : ∀ (σ : Nat → Nat) l, renB σ (scT l) = scT l := fun σ l => renB_plain (cells_nums _ _ _)
  have rr : ∀ (σ : Nat → Nat) l, renB σ (scR l) = scR l := fun σ l => renB_plain (cells_nums _ _ _)
  have rs : ∀ (σ : Nat → Nat) (c : Sc) i j, renB σ (scB c i j) = scB c (σ i) (σ j) := fun σ c i j => rfl
  have i0 : [k0, k1, k2].idxOf k0 = 0 := by simp
  have i1 : [k0, k1, k2].idxOf k1 = 1 := by simp [List.idxOf_cons, q1]
  have i2 : [k0, k1, k2].idxOf k2 = 2 := by simp [List.idxOf_cons, q2, q3]
  refine (VCalls.frame [k0, k1, k2] (by simp [n01, n02, n12]) ?_ ?_ cc ha0 ha).mono ?_
  · simp only [lentTo, List.map_cons, List.map_nil, hk0, hk1, hk2, Option.map_some, allSome, rt, rr, rs, i1, i2]
  · unfold lentOk
    rw [List.all_eq_true]
    intro k hk
    simp only [List.mem_cons, List.not_mem_nil, or_false] at hk
    rcases hk with rfl | rfl | rfl
    · rw [hk0]
      simp [scB, Sv.d, DV.nums, DV.nums.go]
    · rw [hk1]
      dsimp only
      rw [show (scT c.tx).cells = cells encI c.tx from rfl, nums_mono_go _ _ (cells_nums _ _ _)]; simp
    · rw [hk2]
      dsimp only
      rw [show (scR c.rd).cells = cells encO c.rd from rfl, nums_mono_go _ _ (cells_nums _ _ _)]; simp
  · rintro r h2 ⟨r0, h', ⟨c1, a, B, rfl, hn, e⟩, -, rfl, rfl⟩
    rw [ren_id _ _ hn]
    have b1 : back [k0, k1, k2] hp.length 1 = k1 := rfl
    have b2 : back [k0, k1, k2] hp.length 2 = k2 := rfl
    have b3 : back [k0, k1, k2] hp.length 3 = hp.length := rfl
    have rI : ∀ (σ : Nat → Nat), renB σ deadI = deadI := fun σ => rfl
    have rO : ∀ (σ : Nat → Nat), renB σ deadO = deadO := fun σ => rfl
    rcases e with ⟨q, rfl⟩ | ⟨q, rfl⟩ | ⟨q, rfl⟩ <;> rw [behind_three l0 l1 l2 n01 n02 n12]
    · rw [rs, rt, rr, b1, b2]; exact hN c1 a q _
    · rw [rs, rI, rr, b2, b3, List.map_cons, rt]; exact hT c1 a q _
    · rw [rs, rt, rO, b1, b3, List.map_cons, rr]; exact hR c1 a q _
def resR (e : Int) : Rs := if e = 0 then ⟨1, 0, 0, Ce0, 0⟩ else failR e
theorem rresult_v (e : Int) : VCalls Tryz.prog 116 [.int .i64 e] [] (Ret (.agg (resR e).d)) := by
  refine dd Tryz.func116 ?_
  have c1 := failed_v e
  (unfold Tryz.f116; refine rn trivial ?_)
  unfold resR
  have F := trivial
  refine rn F ?_
  repeat' (first
    | with_reducible exact True.intro
    | (refine sB F ?_ ?_ <;> intro hZ)
    | refine vp F (c1) ?_)
  all_goals first
    | (rw [if_pos (by assumption)]; first | done | rfl)
    | (rw [if_neg (by assumption)]; first | done | rfl)
@[go_sem] def rsD (r : Rs) : DV := .agg r.d
theorem rkeep_w (c : Sc) (s : Sv) (e : Int) : VCalls Tryz.prog 112 [.ptr 0 0, .agg s.d, .int .i64 e] [scB c 1 2, scT c.tx, scR c.rd] (ScEnd rsD fun n c' r => n = 0 ∧ c' = ⟨if e = 0 then s else c.s, c.tx, c.rd, c.dead⟩ ∧ r = resR e) := by
  refine vcalls_keepg (fn := Tryz.f112) Tryz.func112 rfl (by kernel_rfl) (by simp [Tryz.f112]) ?_
  have c1 := rresult_v e
  (unfold Tryz.f112; refine rn trivial ?_)
  have F := trivial
  refine rn F ?_
  repeat' (first
    | with_reducible exact True.intro
    | (refine sB F ?_ ?_ <;> intro hZ)
    | refine vp F (c1) ?_)
  · exact vpostG_gc ⟨15, 3, [(6, .ptr 3 0)], [scB ⟨s, c.tx, c.rd, c.dead⟩ 1 2, scT c.tx, scR c.rd, ⟨156, true, (resR e).d⟩]⟩ (gc [0, 1, 2, 4]) ⟨⟨s, c.tx, c.rd, c.dead⟩, resR e, _, rfl, rfl, .inl ⟨⟨rfl, by rw [if_pos (by assumption)], rfl⟩, rfl⟩⟩
  · exact vpostG_gc ⟨15, 3, [(6, .ptr 3 0)], [scB c 1 2, scT c.tx, scR c.rd, ⟨156, true, (resR e).d⟩]⟩ (gc [0, 1, 2, 4]) ⟨c, resR e, _, rfl, rfl, .inl ⟨⟨rfl, by rw [if_neg (by assumption)], rfl⟩, rfl⟩⟩
end Go.Proofs.YtipnkkooklhfgaaGreat

namespace Go.Proofs.YtipnkkooklhfgaaGreat
open Go.V Go
attribute [local go_sem] iteLe
def scQ (c : Sc) (n m : Nat) (c' : Sc) (_ : Rs) : Prop := m ≠ 1 ∧ c'.sm n ∧ c'.dead = c.dead ∧ Ev c.s.k.lg c'.s.k.lg
theorem scQ_same (c : Sc) (n : Nat) (hc : c.sm n) (r : Rs) : scQ c (n + 1) 0 c r := ⟨by decide, ⟨hc.1, Nat.le_succ_of_le hc.2.1, Nat.le_succ_of_le hc.2.2⟩, rfl, Ev.refl _⟩
theorem ract_w (c : Sc) (n : Nat) (hn : n ≤ 2000) (hc : c.sm n) (t : Sp) : VCalls Tryz.prog 113 [.ptr 0 0, .agg t.d] [scB c 1 2, scT c.tx, scR c.rd] (ScEnd rsD (scQ c (n + 1))) := by
  refine vcalls_keepg (fn := Tryz.f113) Tryz.func113 rfl (by kernel_rfl) (by simp [Tryz.f113]) ?_
  have c1 := failed_v 16
  have hq0 := scQ_same c n hc
  have h1 := hc.2.1
  have h2 := hc.2.2
  by_cases h0 : ∃ i : Nat, i < c.tx.length ∧ t.tx = i + 1
  rotate_left
  · have h3 : t.tx < 1 ∨ c.tx.length < t.tx := by
      by_cases ha : t.tx < 1
      · exact .inl ha
      · by_cases hb : c.tx.length < t.tx
        · exact .inr hb
        · exact absurd ⟨(t.tx - 1).toNat, by omega, by omega⟩ h0
    (unfold Tryz.f113; refine rn trivial ?_)
    have F := trivial
    refine rn F ?_
    repeat' (first
      | with_reducible exact True.intro
      | (refine sG F ?_ ?_ <;> intro hZ)
      | refine vp F (c1) ?_
      | (refine vspine (id := 1) [0, 1, 2, 3, 4, 5, 6, 7, 8, 9, 10, 11, 12, 13, 14, 15, 16, 17, 18, 19, 20, 21, 22, 23, 24] [] (by kernel_rfl) (by kernel_rfl) ?_; refine rn F ?_))
    all_goals first
      | (exfalso; omega)
      | exact vpostG_gc ⟨95, 3, [(4, .ptr 3 0)], [scB c 1 2, scT (Sc.tx c), scR (Sc.rd c), ⟨156, true, Rs.d (failR 16)⟩]⟩ (gc [0, 1, 2, 4]) ⟨c, failR 16, _, rfl, rfl, .inl ⟨hq0 _, rfl⟩⟩
      | skip
  obtain ⟨i, hi, ht⟩ := h0
  have hg := cellsI_get c.tx i hi
  have d1 := rido_w c.s hc.1 (c.tx.getD i 0) t.a
  have e1 : (↑i + 1 - 1 : Int) = ↑i := by omega
  have hlt : (i < c.tx.length) = True := eq_true hi
  (unfold Tryz.f113; refine rn trivial ?_)
  simp only [ht]
  have F := (And.intro @hg (And.intro @e1 @hlt))
  refine rn F ?_
  repeat' (first
    | with_reducible exact True.intro
    | (refine sG F ?_ ?_ <;> intro hZ)
    | (refine sB F ?_ ?_ <;> intro hZ)
    | refine vp F (c1) ?_
    | (refine vc_S (d1) rfl ?_; rintro ⟨s2, r2⟩ hq; refine rn F ?_)
    | refine vp F (rlLast_v s2.k.lg (Nat.le_trans hq.1.1.1 (by decide))) ?_
    | (refine vspine (id := 1) [0, 1, 2, 3, 4, 5, 6, 7, 8, 9, 10, 11, 12, 13, 14, 15, 16, 17, 18, 19, 20, 21, 22, 23, 24] [] (by kernel_rfl) (by kernel_rfl) ?_; refine rn F ?_)
    | (refine vspine (id := 3) [0, 1, 2, 3, 4, 5, 6, 7, 8] [⟨[], [], 9, [], []⟩] (by kernel_rfl) (by kernel_rfl) ?_; refine rn F ?_)
    | (refine vspine (id := 4) [0, 1, 2, 3, 4, 5, 6] [⟨[11, 12], [], 7, [0, 1, 2, 5], [8, 9, 10]⟩, ⟨[11, 12], [11], 13, [10], []⟩, ⟨[12], [12], 14, [], []⟩] (by kernel_rfl) (by kernel_rfl) ?_; refine rn F ?_)
    | (refine vspine (id := 9) [0, 1, 2, 3, 4, 5, 6, 7, 8, 9, 10, 11, 12, 13, 14, 16, 17] [⟨[], [], 15, [0, 1, 2, 3, 4, 5, 6, 7, 8, 9, 10, 11, 12, 13, 16, 17], [18]⟩, ⟨[19], [19], 20, [0, 1, 2, 3, 5, 6, 7, 8, 9, 10, 11, 12, 13, 14, 16, 17, 18], [21, 22]⟩, ⟨[], [], 23, [21], []⟩] (by kernel_rfl) (by kernel_rfl) ?_; refine rn F ?_))
  all_goals first
    | exact vpostG_gc ⟨95, 3, [(4, .ptr 3 0)], [scB c 1 2, scT (Sc.tx c), scR (Sc.rd c), ⟨156, true, Rs.d (failR 16)⟩]⟩ (gc [0, 1, 2, 4]) ⟨c, failR 16, _, rfl, rfl, .inl ⟨hq0 _, rfl⟩⟩
    | exact vpostG_gc ⟨95, 3, [(4, .ptr 3 0)], [scB c 1 2, scT (Sc.tx c), scR (Sc.rd c), ⟨156, true, Rs.d (r2)⟩]⟩ (gc [0, 1, 2, 4]) ⟨c, r2, _, rfl, rfl, .inl ⟨hq0 _, rfl⟩⟩
    | exact vpostG_gc ⟨95, 3, [(4, .ptr 3 0)], [scB ⟨s2, c.tx, c.rd, c.dead⟩ 1 2, scT (Sc.tx ⟨s2, c.tx, c.rd, c.dead⟩), scR (Sc.rd ⟨s2, c.tx, c.rd, c.dead⟩), ⟨156, true, Rs.d (r2)⟩]⟩ (gc [0, 1, 2, 4]) ⟨⟨s2, c.tx, c.rd, c.dead⟩, r2, _, rfl, rfl, .inl ⟨⟨by decide, ⟨hq.1, by dsimp only; omega, by dsimp only; omega⟩, rfl, hq.2⟩, rfl⟩⟩
    | skip
  have hl : (c.rd ++ [(⟨c.tx.getD i 0, t.a.pg, t.a.sl, lastS s2.k.lg, r2.cell⟩ : Rd)]).length = c.rd.length + 1 := by simp
  generalize hr : c.rd ++ [(⟨c.tx.getD i 0, t.a.pg, t.a.sl, lastS s2.k.lg, r2.cell⟩ : Rd)] = rd at *
  rw [← hl]
  exact vpostG_gc ⟨95, 3, [(4, .ptr 4 0)], [scB ⟨s2, c.tx, rd, c.dead⟩ 1 3, scT c.tx, deadO, scR rd, ⟨156, true, r2.d⟩]⟩ (gc [0, 1, 2, 8, 4]) ⟨⟨s2, c.tx, rd, c.dead⟩, r2, _, rfl, rfl, .inr (.inr ⟨⟨by decide, ⟨hq.1, by dsimp only; omega, by dsimp only; omega⟩, rfl, hq.2⟩, rfl⟩)⟩
end Go.Proofs.YtipnkkooklhfgaaGreat

namespace Go.Proofs.YtipnkkooklhfgaaGreat
open Go.V Go
attribute [local go_sem] iteLe
def scI (I : Lg → Prop) (c : Sc) (n _ : Nat) (c' : Sc) (_ : Rs) : Prop := c'.sm n ∧ (I c.s.k.lg → I c'.s.k.lg)
theorem scI_same (I : Lg → Prop) (c : Sc) (n : Nat) (hc : c.sm n) (r : Rs) : scI I c (n + 1) 0 c r := ⟨⟨hc.1, Nat.le_succ_of_le hc.2.1, Nat.le_succ_of_le hc.2.2⟩, id⟩
abbrev StepC (I : Lg → Prop) (c : Sc) (n : Nat) (t : Sp) : Prop := VCalls Tryz.prog 102 [.ptr 0 0, .agg t.d] [scB c 1 2, scT c.tx, scR c.rd] (ScEnd rsD (scI I c (n + 1)))
theorem keepS (I : Lg → Prop) (hI : ∀ x y, Ev x y → I x → I y) {s s2 : Sv} {e : Int} (hs : s.sm) (hq : s2.sm ∧ (e = 0 → Ev s.k.lg s2.k.lg)) : (if e = 0 then s2 else s).sm ∧ (I s.k.lg → I (if e = 0 then s2 else s).k.lg) := by
  split
  · rename_i h; exact ⟨hq.1, hI _ _ (hq.2 h)⟩
  · exact ⟨hs, id⟩
theorem rstep3_w (I : Lg → Prop) (hI : ∀ x y, Ev x y → I x → I y) (c : Sc) (n : Nat) (hn : n ≤ 2000) (hc : c.sm n) (t : Sp) (ht : t.kind = 3) : StepC I c n t := by
  refine vcalls_keepg (fn := Tryz.f102) Tryz.func102 rfl (by kernel_rfl) (by simp [Tryz.f102]) ?_
  obtain ⟨k, tx, pg, torn, cut, a⟩ := t
  dsimp only at ht
  subst ht
  have c1 := rsflush_w c.s hc.1 pg
  (unfold Tryz.f102; refine rn trivial ?_)
  have F := trivial
  refine rn F ?_
  repeat' (first
    | with_reducible exact True.intro
    | (refine vc_S (c1) rfl ?_; rintro ⟨s2, e2⟩ hq; refine rn F ?_)
    | (refine vspineT (id := 12) [[], [], [1], [1, 2], [1, 2, 3], [], [5], [1, 2, 3, 4, 5, 6], [1, 2, 3, 4, 5, 6, 7], [1, 2, 3, 4, 5, 6, 7], [0, 1, 2, 3, 4, 5, 6, 7, 8, 9], [0, 1, 2, 3, 4, 5, 6, 7, 8, 9, 10]] [0, 1, 2, 3, 4, 5, 6] [⟨[], [], 7, [0], [8, 9]⟩, ⟨[], [], 10, [], []⟩, ⟨[], [], 11, [], []⟩] (by kernel_rfl) (by kernel_rfl) (by kernel_rfl) ?_; refine rn F ?_))
  refine vc_sc (c := c) 0 1 2 (rkeep_w c s2 e2) rfl rfl rfl (by decide) (by decide) (by decide) rfl rfl ?_ (fun _ _ h => absurd h.1 (by decide)) (fun _ _ h => absurd h.1 (by decide))
  rintro _ _ ⟨-, rfl, rfl⟩ B
  obtain ⟨k1, k2⟩ := keepS I hI hc.1 hq
  generalize (if e2 = 0 then s2 else c.s) = s' at *
  refine rn trivial ?_
  exact vpostG_gc ⟨132, 3, [(4, .ptr 3 0)], [scB ⟨s', c.tx, c.rd, c.dead⟩ 1 2, scT (Sc.tx ⟨s', c.tx, c.rd, c.dead⟩), scR (Sc.rd ⟨s', c.tx, c.rd, c.dead⟩), ⟨156, true, Rs.d (resR e2)⟩]⟩ (gc [0, 1, 2, 4]) ⟨⟨s', c.tx, c.rd, c.dead⟩, resR e2, _, rfl, rfl, .inl ⟨⟨⟨k1, Nat.le_succ_of_le hc.2.1, Nat.le_succ_of_le hc.2.2⟩, k2⟩, rfl⟩⟩
theorem rstep4_w (I : Lg → Prop) (hI : ∀ x y, Ev x y → I x → I y) (c : Sc) (n : Nat) (hn : n ≤ 2000) (hc : c.sm n) (t : Sp) (ht : t.kind = 4) : StepC I c n t := by
  refine vcalls_keepg (fn := Tryz.f102) Tryz.func102 rfl (by kernel_rfl) (by simp [Tryz.f102]) ?_
  obtain ⟨k, tx, pg, torn, cut, a⟩ := t
  dsimp only at ht
  subst ht
  have c1 := rscheck_w c.s hc.1
  (unfold Tryz.f102; refine rn trivial ?_)
  have F := trivial
  refine rn F ?_
  repeat' (first
    | with_reducible exact True.intro
    | (refine vc_S (c1) rfl ?_; rintro ⟨s2, n2, e2⟩ hq; refine rn F ?_))
  refine vc_sc (c := c) 0 1 2 (rkeep_w c s2 e2) rfl rfl rfl (by decide) (by decide) (by decide) rfl rfl ?_ (fun _ _ h => absurd h.1 (by decide)) (fun _ _ h => absurd h.1 (by decide))
  rintro _ _ ⟨-, rfl, rfl⟩ B
  obtain ⟨k1, k2⟩ := keepS I hI hc.1 hq
  generalize (if e2 = 0 then s2 else c.s) = s' at *
  refine rn trivial ?_
  exact vpostG_gc ⟨132, 3, [(4, .ptr 3 0)], [scB ⟨s', c.tx, c.rd, c.dead⟩ 1 2, scT (Sc.tx ⟨s', c.tx, c.rd, c.dead⟩), scR (Sc.rd ⟨s', c.tx, c.rd, c.dead⟩), ⟨156, true, Rs.d (resR e2)⟩]⟩ (gc [0, 1, 2, 4]) ⟨⟨s', c.tx, c.rd, c.dead⟩, resR e2, _, rfl, rfl, .inl ⟨⟨⟨k1, Nat.le_succ_of_le hc.2.1, Nat.le_succ_of_le hc.2.2⟩, k2⟩, rfl⟩⟩
theorem rstep7_w (I : Lg → Prop) (hI : ∀ x y, Ev x y → I x → I y) (c : Sc) (n : Nat) (hn : n ≤ 2000) (hc : c.sm n) (t : Sp) (ht : t.kind = 7) : StepC I c n t := by
  refine vcalls_keepg (fn := Tryz.f102) Tryz.func102 rfl (by kernel_rfl) (by simp [Tryz.f102]) ?_
  obtain ⟨k, tx, pg, torn, cut, a⟩ := t
  dsimp only at ht
  subst ht
  have c1 := rwork_w c.s hc.1
  (unfold Tryz.f102; refine rn trivial ?_)
  have F := trivial
  refine rn F ?_
  repeat' (first
    | with_reducible exact True.intro
    | (refine vc_S (c1) rfl ?_; rintro ⟨s2, n2, e2⟩ hq; refine rn F ?_))
  refine vc_sc (c := c) 0 1 2 (rkeep_w c s2 e2) rfl rfl rfl (by decide) (by decide) (by decide) rfl rfl ?_ (fun _ _ h => absurd h.1 (by decide)) (fun _ _ h => absurd h.1 (by decide))
  rintro _ _ ⟨-, rfl, rfl⟩ B
  obtain ⟨k1, k2⟩ := keepS I hI hc.1 hq
  generalize (if e2 = 0 then s2 else c.s) = s' at *
  refine rn trivial ?_
  exact vpostG_gc ⟨132, 3, [(4, .ptr 3 0)], [scB ⟨s', c.tx, c.rd, c.dead⟩ 1 2, scT (Sc.tx ⟨s', c.tx, c.rd, c.dead⟩), scR (Sc.rd ⟨s', c.tx, c.rd, c.dead⟩), ⟨156, true, Rs.d (resR e2)⟩]⟩ (gc [0, 1, 2, 4]) ⟨⟨s', c.tx, c.rd, c.dead⟩, resR e2, _, rfl, rfl, .inl ⟨⟨⟨k1, Nat.le_succ_of_le hc.2.1, Nat.le_succ_of_le hc.2.2⟩, k2⟩, rfl⟩⟩
theorem rstep5_w (I : Lg → Prop) (hI : ∀ x y, Ev x y → I x → I y) (c : Sc) (n : Nat) (hn : n ≤ 2000) (hc : c.sm n) (t : Sp) (ht : t.kind = 5) : StepC I c n t := by
  refine vcalls_keepg (fn := Tryz.f102) Tryz.func102 rfl (by kernel_rfl) (by simp [Tryz.f102]) ?_
  obtain ⟨k, tx, pg, torn, cut, a⟩ := t
  dsimp only at ht
  subst ht
  have c1 := rlLast_v c.s.k.lg (Nat.le_trans hc.1.1.1 (by decide))
  have c2 := rforce_v c.s.k.lg (Nat.le_trans hc.1.1.1 (by decide)) (lastS c.s.k.lg)
  have c3 := fun e => rresult_v e
  (unfold Tryz.f102; refine rn trivial ?_)
  have F := trivial
  refine rn F ?_
  repeat' (first
    | with_reducible exact True.intro
    | (refine sB F ?_ ?_ <;> intro hZ)
    | refine vp F (c1) ?_
    | refine vp F (c2) ?_
    | refine vp F (c3 _) ?_
    | (refine vspineT (id := 17) [[], [0], [0, 1], [0, 1, 2], [0, 1, 2, 3], [0, 1, 2, 3, 4], [], [6], [6, 7], [6, 7, 8], [6, 7, 8, 9], [6, 7, 8, 9, 10], [6, 7, 8, 9, 10, 11], [0, 1, 2, 3, 4, 5, 6, 7, 8, 9, 10, 11, 12], [0, 1, 2, 3, 4, 5, 6, 7, 8, 9, 10, 11, 12, 13], [0, 1, 2, 3, 4, 5, 6, 7, 8, 9, 10, 11, 12, 13, 14], [0, 1, 2, 3, 4, 5, 6, 7, 8, 9, 10, 11, 12, 13, 14], [], [0, 1, 2, 3, 4, 5, 6, 7, 8, 9, 10, 11, 12, 13, 14, 15, 17], [0, 1, 2, 3, 4, 5, 6, 7, 8, 9, 10, 11, 12, 13, 14, 15, 16, 17, 18]] [0, 1, 2, 3, 4, 5, 6, 7, 8, 9, 10, 11] [⟨[17], [], 12, [0, 1, 2, 3, 4, 5], []⟩, ⟨[17], [], 13, [], [14, 15, 16]⟩, ⟨[17], [17], 18, [16], []⟩, ⟨[], [], 19, [], []⟩] (by kernel_rfl) (by kernel_rfl) (by kernel_rfl) ?_; refine rn F ?_))
  · exact vpostG_gc ⟨132, 3, [(4, .ptr 3 0)], [scB ⟨⟨⟨c.s.k.pg, c.s.k.nx, (forceS c.s.k.lg (lastS c.s.k.lg)).1, c.s.k.pl, c.s.k.lk, c.s.k.tx, c.s.k.ix, c.s.k.la⟩, c.s.v⟩, c.tx, c.rd, c.dead⟩ 1 2, scT (Sc.tx ⟨⟨⟨c.s.k.pg, c.s.k.nx, (forceS c.s.k.lg (lastS c.s.k.lg)).1, c.s.k.pl, c.s.k.lk, c.s.k.tx, c.s.k.ix, c.s.k.la⟩, c.s.v⟩, c.tx, c.rd, c.dead⟩), scR (Sc.rd ⟨⟨⟨c.s.k.pg, c.s.k.nx, (forceS c.s.k.lg (lastS c.s.k.lg)).1, c.s.k.pl, c.s.k.lk, c.s.k.tx, c.s.k.ix, c.s.k.la⟩, c.s.v⟩, c.tx, c.rd, c.dead⟩), ⟨156, true, Rs.d (resR _)⟩]⟩ (gc [0, 1, 2, 4]) ⟨⟨⟨⟨c.s.k.pg, c.s.k.nx, (forceS c.s.k.lg (lastS c.s.k.lg)).1, c.s.k.pl, c.s.k.lk, c.s.k.tx, c.s.k.ix, c.s.k.la⟩, c.s.v⟩, c.tx, c.rd, c.dead⟩, resR _, _, rfl, rfl, .inl ⟨⟨⟨⟨⟨forceS_len _ _ hc.1.1.1, hc.1.1.2⟩, hc.1.2⟩, Nat.le_succ_of_le hc.2.1, Nat.le_succ_of_le hc.2.2⟩, hI _ _ (forceS_ev (by assumption))⟩, rfl⟩⟩
  · exact vpostG_gc ⟨132, 3, [(4, .ptr 3 0)], [scB c 1 2, scT (Sc.tx c), scR (Sc.rd c), ⟨156, true, Rs.d (resR _)⟩]⟩ (gc [0, 1, 2, 4]) ⟨c, resR _, _, rfl, rfl, .inl ⟨scI_same I c n hc _, rfl⟩⟩
theorem rstep2_w (I : Lg → Prop) (hI : ∀ x y, Ev x y → I x → I y) (c : Sc) (n : Nat) (hn : n ≤ 2000) (hc : c.sm n) (t : Sp) (ht : t.kind = 2) : StepC I c n t := by
  refine vcalls_keepg (fn := Tryz.f102) Tryz.func102 rfl (by kernel_rfl) (by simp [Tryz.f102]) ?_
  obtain ⟨k, tx, pg, torn, cut, a⟩ := t
  dsimp only at ht
  subst ht
  (unfold Tryz.f102; refine rn trivial ?_)
  refine vc_sc (c := c) 0 1 2 (ract_w c n hn hc ⟨2, tx, pg, torn, cut, a⟩) rfl rfl rfl (by decide) (by decide) (by decide) rfl rfl ?_ (fun _ _ h => absurd rfl h.1) ?_
  · rintro c1 r1 ⟨-, q1, -, q2⟩ B
    refine rn trivial ?_
    exact vpostG_gc ⟨132, 3, [(4, .ptr 3 0)], [scB c1 1 2, scT (Sc.tx c1), scR (Sc.rd c1), ⟨156, true, Rs.d (r1)⟩]⟩ (gc [0, 1, 2, 4]) ⟨c1, r1, _, rfl, rfl, .inl ⟨⟨q1, hI _ _ q2⟩, rfl⟩⟩
  · rintro c1 r1 ⟨-, q1, -, q2⟩ B
    refine rn trivial ?_
    exact vpostG_gc ⟨132, 3, [(4, .ptr 4 0)], [scB c1 1 3, scT c1.tx, deadO, scR c1.rd, ⟨156, true, r1.d⟩]⟩ (gc [0, 1, 2, 5, 4]) ⟨c1, r1, _, rfl, rfl, .inr (.inr ⟨⟨q1, hI _ _ q2⟩, rfl⟩)⟩
theorem rstep1_w (I : Lg → Prop) (hI : ∀ x y, Ev x y → I x → I y) (c : Sc) (n : Nat) (hn : n ≤ 2000) (hc : c.sm n) (t : Sp) (ht : t.kind = 1) : StepC I c n t := by
  refine vcalls_keepg (fn := Tryz.f102) Tryz.func102 rfl (by kernel_rfl) (by simp [Tryz.f102]) ?_
  obtain ⟨k, tx, pg, torn, cut, a⟩ := t
  dsimp only at ht
  subst ht
  have c1 := rsbegin_w c.s hc.1
  (unfold Tryz.f102; refine rn trivial ?_)
  have hb : (c.tx.length + 1) * 8 ≤ 140737488355328 := by have := hc.2.1; omega
  have F := @hb
  refine rn F ?_
  repeat' (first
    | with_reducible exact True.intro
    | (refine sB F ?_ ?_ <;> intro hZ)
    | (refine vc_S (c1) rfl ?_; rintro ⟨s2, n2, e2⟩ hq; refine rn F ?_))
  rotate_left
  · refine vc_sc (c := c) 0 1 2 (rkeep_w c s2 e2) rfl rfl rfl (by decide) (by decide) (by decide) rfl rfl ?_ (fun _ _ h => absurd h.1 (by decide)) (fun _ _ h => absurd h.1 (by decide))
    rintro _ _ ⟨-, rfl, rfl⟩ B
    obtain ⟨k1, k2⟩ := keepS I hI hc.1 hq
    generalize (if e2 = 0 then s2 else c.s) = s' at *
    refine rn trivial ?_
    exact vpostG_gc ⟨132, 3, [(4, .ptr 3 0)], [scB ⟨s', c.tx, c.rd, c.dead⟩ 1 2, scT (Sc.tx ⟨s', c.tx, c.rd, c.dead⟩), scR (Sc.rd ⟨s', c.tx, c.rd, c.dead⟩), ⟨156, true, Rs.d ({ resR e2 with tx := n2 })⟩]⟩ (gc [0, 1, 2, 4]) ⟨⟨s', c.tx, c.rd, c.dead⟩, { resR e2 with tx := n2 }, _, rfl, rfl, .inl ⟨⟨⟨k1, Nat.le_succ_of_le hc.2.1, Nat.le_succ_of_le hc.2.2⟩, k2⟩, rfl⟩⟩
  have hl : (c.tx ++ [n2]).length = c.tx.length + 1 := by simp
  generalize c.tx ++ [n2] = l at *
  rw [← hl]
  refine vc_sc (c := ⟨c.s, l, c.rd, c.dead⟩) 0 7 2 (rkeep_w ⟨c.s, l, c.rd, c.dead⟩ s2 e2) rfl rfl rfl (by decide) (by decide) (by decide) rfl rfl ?_ (fun _ _ h => absurd h.1 (by decide)) (fun _ _ h => absurd h.1 (by decide))
  rintro _ _ ⟨-, rfl, rfl⟩ B
  obtain ⟨k1, k2⟩ := keepS I hI hc.1 hq
  generalize (if e2 = 0 then s2 else c.s) = s' at *
  have h1 := hc.2.1
  refine rn trivial ?_
  exact vpostG_gc ⟨132, 3, [(4, .ptr 4 0)], [scB ⟨s', l, c.rd, c.dead⟩ 3 2, deadI, scR c.rd, scT l, ⟨156, true, Rs.d { resR e2 with tx := n2 }⟩]⟩ (gc [0, 1, 2, 7, 4]) ⟨⟨s', l, c.rd, c.dead⟩, { resR e2 with tx := n2 }, _, rfl, rfl, .inr (.inl ⟨⟨⟨k1, by dsimp only; omega, Nat.le_succ_of_le hc.2.2⟩, k2⟩, rfl⟩)⟩
end Go.Proofs.YtipnkkooklhfgaaGreat

namespace Go.Proofs.YtipnkkooklhfgaaGreat
open Go.V Go
attribute [local go_sem] iteLe
theorem rstepO_w (I : Lg → Prop) (c : Sc) (n : Nat) (hc : c.sm n) (t : Sp) (h1 : t.kind ≠ 1) (h2 : t.kind ≠ 2) (h3 : t.kind ≠ 3) (h4 : t.kind ≠ 4) (h5 : t.kind ≠ 5) (h6 : t.kind ≠ 6) (h7 : t.kind ≠ 7) : StepC I c n t := by
  refine vcalls_keepg (fn := Tryz.f102) Tryz.func102 rfl (by kernel_rfl) (by simp [Tryz.f102]) ?_
  have c1 := failed_v 1
  (unfold Tryz.f102; refine rn (And.intro @h1 (And.intro @h2 (And.intro @h3 (And.intro @h4 (And.intro @h5 (And.intro @h6 @h7)))))) ?_)
  have F := (And.intro @h1 (And.intro @h2 (And.intro @h3 (And.intro @h4 (And.intro @h5 (And.intro @h6 @h7))))))
  refine rn F ?_
  repeat' (first
    | with_reducible exact True.intro
    | refine vp F (c1) ?_)
  exact vpostG_gc ⟨132, 3, [(4, .ptr 3 0)], [scB c 1 2, scT (Sc.tx c), scR (Sc.rd c), ⟨156, true, Rs.d (failR 1)⟩]⟩ (gc [0, 1, 2, 4]) ⟨c, failR 1, _, rfl, rfl, .inl ⟨scI_same I c n hc _, rfl⟩⟩
theorem rstepA_w (I : Lg → Prop) (hI : ∀ x y, Ev x y → I x → I y) (c : Sc) (n : Nat) (hn : n ≤ 2000) (hc : c.sm n) (t : Sp) (h6 : t.kind = 6 → StepC I c n t) : StepC I c n t := by
  by_cases q1 : t.kind = 1
  · exact rstep1_w I hI c n hn hc t q1
  by_cases q2 : t.kind = 2
  · exact rstep2_w I hI c n hn hc t q2
  by_cases q3 : t.kind = 3
  · exact rstep3_w I hI c n hn hc t q3
  by_cases q4 : t.kind = 4
  · exact rstep4_w I hI c n hn hc t q4
  by_cases q5 : t.kind = 5
  · exact rstep5_w I hI c n hn hc t q5
  by_cases q6 : t.kind = 6
  · exact h6 q6
  by_cases q7 : t.kind = 7
  · exact rstep7_w I hI c n hn hc t q7
  exact rstepO_w I c n hc t q1 q2 q3 q4 q5 q6 q7
def encV : Enc Sp := ⟨9, fun t => [.lit (.int .i64 t.kind), .lit (.int .i64 t.tx), .lit (.int .i64 t.pg), .lit (.int .i64 t.torn), .lit (.int .i64 t.cut), .lit (.int .i64 t.a.kind), .lit (.int .i64 t.a.pg), .lit (.int .i64 t.a.sl), .str t.a.data], by decide, fun _ => rfl⟩
theorem lenV (l : List Sp) : (cells encV l).length = l.length * 9 := cells_len encV l
theorem allV (l : List Sp) (n : Nat) (h : l.length * 9 ≤ n) : (cells encV l).take n = cells encV l := by rw [List.take_of_length_le]; rw [lenV]; exact h
theorem frzV {n : Nat} {hp : Heap} {len : Nat} {l : List Sp} (h : l.length = len) : frzC n hp 0 9 len (some (cells encV l)) = some (.sl (fz encV l)) := frzC_cells encV h
def Sp0 : Sp := ⟨0, 0, 0, 0, 0, 0, 0, 0, []⟩
theorem fzV_at (l : List Sp) (i : Nat) (h : i < l.length) : (fz encV l)[i]? = some [.lit (.int .i64 (l.getD i Sp0).kind), .lit (.int .i64 (l.getD i Sp0).tx), .lit (.int .i64 (l.getD i Sp0).pg), .lit (.int .i64 (l.getD i Sp0).torn), .lit (.int .i64 (l.getD i Sp0).cut), .lit (.int .i64 (l.getD i Sp0).a.kind), .lit (.int .i64 (l.getD i Sp0).a.pg), .lit (.int .i64 (l.getD i Sp0).a.sl), .str (l.getD i Sp0).a.data] := fz_getD encV l Sp0 i h
attribute [go_sem] lenV allV frzV
def encU2 : Enc Rs := ⟨6, fun r => [.lit (.int .i64 r.st), .lit (.int .i64 r.tx), .lit (.int .i64 r.pg), .lit (.bool r.cell.set), .str r.cell.data, .lit (.int .i64 r.er)], by decide, fun _ => rfl⟩
theorem lenU2 (l : List Rs) : (cells encU2 l).length = l.length * 6 := cells_len encU2 l
theorem allU2 (l : List Rs) (n : Nat) (h : l.length * 6 ≤ n) : (cells encU2 l).take n = cells encU2 l := by rw [List.take_of_length_le]; rw [lenU2]; exact h
theorem frzU2 {n : Nat} {hp : Heap} {len : Nat} {l : List Rs} (h : l.length = len) : frzC n hp 0 6 len (some (cells encU2 l)) = some (.sl (fz encU2 l)) := frzC_cells encU2 h
theorem app_U2 (l : List Rs) (a b c : Int) (x : Bool) (s : List UInt8) (d : Int) : cells encU2 l ++ [.pv (.lit (.int .i64 a)), .pv (.lit (.int .i64 b)), .pv (.lit (.int .i64 c)), .pv (.lit (.bool x)), .pv (.str s), .pv (.lit (.int .i64 d))] = cells encU2 (l ++ [⟨a, b, c, ⟨x, s⟩, d⟩]) := by rw [cells_app]; rfl
attribute [go_sem] lenU2 allU2 frzU2 app_U2
theorem wk_O (l : List Rd) : DV.wk.go (cells encO l) = cells encO l := wk_cells encO l fun a p hp => by
  simp [encO] at hp
  rcases hp with h | h | h | h | h | h <;> subst h <;> rfl
theorem wk_U2 (l : List Rs) : DV.wk.go (cells encU2 l) = cells encU2 l := wk_cells encU2 l fun a p hp => by
  simp [encU2] at hp
  rcases hp with h | h | h | h | h | h <;> subst h <;> rfl
attribute [go_sem] wk_O wk_U2
structure Ru (I : Lg → Prop) (s : Sv) (l : List Sp) where
  i : Nat
  c : Sc
  out : List Rs
  hi : i ≤ l.length
  h1 : i ≤ 1000
  hc : c.sm i
  ho : out.length = i
  hI : I s.k.lg → I c.s.k.lg
@[go_sem] def runD (a : Sv × List Rs × List Rd) : DV := .tup [.agg a.1.d, .pv (.sl (fz encU2 a.2.1)), .pv (.sl (fz encO a.2.2))]
theorem rrun_w (I : Lg → Prop) (hI : ∀ x y, Ev x y → I x → I y) (s : Sv) (hs : s.sm) (l : List Sp) (h6 : ∀ i, i < l.length → (l.getD i Sp0).kind = 6 → ∀ c n, n ≤ 2000 → c.sm n → StepC I c n (l.getD i Sp0)) : VCalls Tryz.prog 87 [.agg s.d, .pv (.sl (fz encV l))] [] (RetS runD fun a => a.1.sm ∧ (I s.k.lg → I a.1.k.lg)) := by
  refine dk Tryz.func87 ?_
  (unfold Tryz.f87; refine rn trivial ?_)
  refine VLoop.nilOwnC 2 18 3 1 rfl rfl ?_
  refine VLoop.nilOwnC 2 19 185 6 rfl rfl ?_
  refine VLoop.nilOwn 8 156 6 rfl ?_
  refine rn trivial ?_
  refine vloopW (fun r : Ru I s l => ⟨48, 0, [(9, .int .i64 r.i), (8, .own 4 6 0 r.out.length), (7, .ptr 1 0), (4, .ptr 0 0), (1, .pv (.sl (fz encV l)))], [⟨102, true, Zv⟩, scB r.c 2 3, scT r.c.tx, scR r.c.rd, ⟨156, true, cells encU2 r.out⟩]⟩) (fun r => l.length - r.i) ⟨0, ⟨s, [], [], false⟩, [], Nat.zero_le _, by decide, ⟨hs, Nat.zero_le _, Nat.zero_le _⟩, rfl, id⟩ (gc [1, 2, 3, 4, 5]) ?_
  rintro ⟨i, c, out, hi, h1, hc, ho, h⟩
  dsimp only
  unfold Zv
  have hg := fun h : i < l.length => fzV_at l i h
  have hb : (out.length + 1) * 72 ≤ 140737488355328 := by omega
  obtain ⟨sv, tx, rd, dead⟩ := c
  cases dead
  rotate_left
  · skip
    have F := @hg
    refine rn F ?_
    repeat' (first
      | with_reducible exact True.intro
      | (refine sG F ?_ ?_ <;> intro hZ)
      | (refine vspineT (id := 7) [[], [0], [0, 1], [0, 1, 2], [], [], [5], [5, 6], [5, 6, 7], [0, 1, 2, 3], [0, 1, 2, 3, 4, 9], [0, 1, 2, 3, 4, 5, 6, 7, 8, 9, 10]] [0, 1, 2, 3, 4, 5, 6, 7, 8] [⟨[], [], 9, [4, 5, 6, 7, 8], []⟩, ⟨[], [], 10, [5, 6, 7, 8], []⟩, ⟨[], [], 11, [], []⟩] (by kernel_rfl) (by kernel_rfl) (by kernel_rfl) ?_; refine rn F ?_))
    all_goals exact ⟨rfl, rfl, (sv, out, rd), rfl, hc.1, h⟩
  have F := @hg
  refine rn F ?_
  repeat' (first
    | with_reducible exact True.intro
    | (refine sG F ?_ ?_ <;> intro hZ)
    | (refine vspineT (id := 7) [[], [0], [0, 1], [0, 1, 2], [], [], [5], [5, 6], [5, 6, 7], [0, 1, 2, 3], [0, 1, 2, 3, 4, 9], [0, 1, 2, 3, 4, 5, 6, 7, 8, 9, 10]] [0, 1, 2, 3, 4, 5, 6, 7, 8] [⟨[], [], 9, [4, 5, 6, 7, 8], []⟩, ⟨[], [], 10, [5, 6, 7, 8], []⟩, ⟨[], [], 11, [], []⟩] (by kernel_rfl) (by kernel_rfl) (by kernel_rfl) ?_; refine rn F ?_))
  all_goals first | exact ⟨rfl, rfl, (sv, out, rd), rfl, hc.1, h⟩ | skip
  have hil : i < l.length := by omega
  refine vc_sc (c := ⟨sv, tx, rd, false⟩) 1 2 3 (rstepA_w I hI _ i (by omega) hc (l.getD i Sp0) (fun hk => h6 i hil hk _ i (by omega) hc)) rfl rfl rfl (by decide) (by decide) (by decide) rfl rfl ?_ ?_ ?_
  all_goals
    rintro c1 r1 ⟨q1, q2⟩ B
    refine rn @hb ?_
    have hl2 : (out ++ [r1]).length = out.length + 1 := by simp
    refine ⟨⟨i + 1, c1, out ++ [r1], hil, by omega, q1, by rw [hl2]; omega, fun x => q2 (h x)⟩, by dsimp only; omega, ?_⟩
    dsimp only
    rw [hl2]
  · exact (gc [0, 1, 2, 3, 7])
  · exact (gc [0, 1, 5, 3, 8])
  · exact (gc [0, 1, 2, 5, 8])
end Go.Proofs.YtipnkkooklhfgaaGreat

namespace Go.Proofs.YtipnkkooklhfgaaGreat
open Go.V Go
attribute [local go_sem] cb cc
theorem kinds_get (i : Nat) (h : i < 12) : ∃ n : Int, ([.pv (.lit (.int .i64 1)), .pv (.lit (.int .i64 1)), .pv (.lit (.int .i64 2)), .pv (.lit (.int .i64 2)), .pv (.lit (.int .i64 2)), .pv (.lit (.int .i64 3)), .pv (.lit (.int .i64 4)), .pv (.lit (.int .i64 5)), .pv (.lit (.int .i64 6)), .pv (.lit (.int .i64 7)), .pv (.lit (.int .i64 2)), .pv (.lit (.int .i64 4))] : List DV)[i]? = some (.int .i64 n) := by
  have e : ([.pv (.lit (.int .i64 1)), .pv (.lit (.int .i64 1)), .pv (.lit (.int .i64 2)), .pv (.lit (.int .i64 2)), .pv (.lit (.int .i64 2)), .pv (.lit (.int .i64 3)), .pv (.lit (.int .i64 4)), .pv (.lit (.int .i64 5)), .pv (.lit (.int .i64 6)), .pv (.lit (.int .i64 7)), .pv (.lit (.int .i64 2)), .pv (.lit (.int .i64 4))] : List DV) = ([1, 1, 2, 2, 2, 3, 4, 5, 6, 7, 2, 4] : List Int).map (DV.int .i64) := rfl
  refine ⟨([1, 1, 2, 2, 2, 3, 4, 5, 6, 7, 2, 4] : List Int)[i]'h, ?_⟩
  rw [e, List.getElem?_map, List.getElem?_eq_getElem h]; rfl
theorem action_v (c : C) (m : Nat) (h1 : 1 ≤ m) (h2 : m ≤ 1000) : VCalls Tryz.prog 120 [.ptr 0 0, .int .i64 m] [cb c] (CX fun r => ∃ a : Ac, r = .agg a.d) := by
  refine dd Tryz.func120 ?_
  (unfold Tryz.f120; refine rn trivial ?_)
  refine vc_cx (k := 0) (c := c) (next_v c 12 (by omega) (by omega)) rfl rfl ?_
  rintro _ c1 ⟨y, rfl, hy⟩
  obtain ⟨n, hn⟩ := kinds_get y hy
  have F := @hn
  refine rn F ?_
  repeat' (first
    | with_reducible exact True.intro
    | (refine sB F ?_ ?_ <;> intro hZ)
    | (refine vc_cx (k := 0) (next_v _ 2 (by omega) (by omega)) rfl rfl ?_; rintro _ _ ⟨_, rfl, _⟩; refine rn F ?_)
    | (refine vc_cx (k := 0) (next_v _ 40 (by omega) (by omega)) rfl rfl ?_; rintro _ _ ⟨_, rfl, _⟩; refine rn F ?_)
    | (refine vc_cx (k := 0) (next_v _ m (by omega) (by omega)) rfl rfl ?_; rintro _ _ ⟨_, rfl, _⟩; refine rn F ?_)
    | (refine vc_cx (k := 0) (data_v _) rfl rfl ?_; rintro _ _ ⟨_, rfl, _⟩; refine rn F ?_)
    | (refine vc_cx (k := 0) (int_v _) rfl rfl ?_; rintro _ _ ⟨_, rfl, _⟩; refine rn F ?_))
  all_goals first
    | exact ⟨_, rfl, rfl, cc_nums _, rfl, ⟨⟨_, _, _, _⟩, rfl⟩, _, rfl⟩
    | skip
end Go.Proofs.YtipnkkooklhfgaaGreat

namespace Go.Proofs.YtipnkkooklhfgaaGreat
open Go.V Go
attribute [local go_sem] cb cc
theorem rdnew0 (n : Int) (h : 1 ≤ n ∧ n ≤ 64) : VCalls Tryz.prog 101 [.int .i64 n] [] (RetS dvD fun a => dvQ a ∧ a.2 = 0) := by
  refine dk Tryz.func101 ?_
  have c1 := rblanks_w n
  (unfold Tryz.f101; refine rn trivial ?_)
  have F := trivial
  refine rn F ?_
  repeat' (first
    | with_reducible exact True.intro
    | (refine vc_S (c1 (by omega)) rfl ?_; rintro l hl; refine rn F ?_))
  all_goals first
    | (exfalso; omega)
    | exact ⟨rfl, rfl, (⟨l, 0, false⟩, 0), rfl, hl, rfl⟩
    | skip
theorem rknew0 (n m : Int) (h : 1 ≤ n ∧ n ≤ 64) (h2 : 1 ≤ m ∧ m ≤ 64) : VCalls Tryz.prog 100 [.int .i64 n, .int .i64 m] [] (RetS kiD fun a => a.1.sm ∧ a.2 = 0 ∧ a.1.lg = Lg1) := by
  refine dk Tryz.func100 ?_
  have c1 := rpnew_v m
  have c2 := rixnew_w n
  have c3 := rlnew_v
  have hf := plNew_fs m
  generalize plNew m = p at *
  (unfold Tryz.f100; refine rn trivial ?_)
  have F := trivial
  refine rn F ?_
  repeat' (first
    | with_reducible exact True.intro
    | refine vp F (c1) ?_
    | (refine vc_S (c2) rfl ?_; rintro ⟨l, e⟩ hl; refine rn F ?_)
    | refine vp F (c3) ?_
    | (refine vspine (id := 5) [0, 2, 3] [⟨[], [], 1, [0, 2, 3], [4]⟩, ⟨[], [], 5, [], []⟩, ⟨[], [], 6, [], []⟩] (by kernel_rfl) (by kernel_rfl) ?_; refine rn F ?_))
  all_goals first
    | (exfalso; omega)
    | exact ⟨rfl, rfl, (⟨n, 1, Lg1, p.1, Lk0, [], l, []⟩, 0), rfl, ⟨Nat.zero_le _, by dsimp only; rw [hf]; exact Nat.zero_le _, Nat.zero_le _, smN_nil _, hl, Nat.zero_le _⟩, rfl, rfl⟩
    | skip
theorem rsnew0 (n m : Int) (h : 1 ≤ n ∧ n ≤ 64) (h2 : 1 ≤ m ∧ m ≤ 64) : VCalls Tryz.prog 86 [.int .i64 n, .int .i64 m] [] (RetS svD fun a => a.1.sm ∧ a.2 = 0 ∧ a.1.k.lg = Lg1) := by
  refine dk Tryz.func86 ?_
  have c1 := rknew0 n m h h2
  have c2 := rdnew0 n h
  (unfold Tryz.f86; refine rn trivial ?_)
  refine vc_S c1 rfl ?_
  rintro ⟨k, e⟩ ⟨hk, he, hg⟩
  dsimp only at hk he hg
  subst he
  refine rn trivial ?_
  refine vc_S c2 rfl ?_
  rintro ⟨v, e⟩ ⟨hv, he⟩
  dsimp only at he
  subst he
  refine rn trivial ?_
  exact ⟨rfl, rfl, (⟨k, v⟩, 0), rfl, ⟨hk, hv⟩, rfl, hg⟩
theorem app_V (l : List Sp) (a b c d e f g h : Int) (s : List UInt8) : cells encV l ++ [.pv (.lit (.int .i64 a)), .pv (.lit (.int .i64 b)), .pv (.lit (.int .i64 c)), .pv (.lit (.int .i64 d)), .pv (.lit (.int .i64 e)), .pv (.lit (.int .i64 f)), .pv (.lit (.int .i64 g)), .pv (.lit (.int .i64 h)), .pv (.str s)] = cells encV (l ++ [⟨a, b, c, d, e, ⟨f, g, h, s⟩⟩]) := by rw [cells_app]; rfl
def no6 (l : List Sp) : Prop := ∀ i, i < l.length → (l.getD i Sp0).kind ≠ 6
structure Sd (most : Nat) where
  k : Nat
  c : C
  l : List Sp
  hk : k + l.length ≤ most + 2
  h6 : no6 l
def spB : Sp := ⟨1, 0, 0, 0, 0, ⟨0, 0, 0, []⟩⟩
def LgI (x : Lg) : Prop := lgB x = true ∧ x.f = 1
end Go.Proofs.YtipnkkooklhfgaaGreat

namespace Go.Proofs.YtipnkkooklhfgaaGreat
open Go.V Go
theorem rlkvalidX (t : Lk) (h : 1024 < t.sum) (h2 : t.held.length ≤ 10000000 ∧ t.wait.length ≤ 10000000) : VCalls Tryz.prog 188 [.agg t.d] [] (Ret (.bool false)) := by
  refine dd Tryz.func188 ?_
  unfold Lk.sum at h
  have h' : (1024 : Int) < t.held.length + t.wait.length := by omega
  (unfold Tryz.f188; refine rn @h' ?_; try with_reducible exact True.intro)
def Kn.smX (k : Kn) : Prop := k.lg.es.length ≤ 4096 ∧ k.pl.fs.length ≤ 64 ∧ smN 65 k.tx ∧ k.ix.length ≤ 64 ∧ k.la.length ≤ 10000
theorem rpartsX (k : Kn) (hk : k.smX) (h : 1024 < k.lk.sum) (hq : k.lk.held.length ≤ 10000000 ∧ k.lk.wait.length ≤ 10000000) : VCalls Tryz.prog 149 [.agg k.d] [] (Ret (.bool false)) := by
  refine dd Tryz.func149 ?_
  obtain ⟨h1, h2, h4, h5, h6⟩ := hk
  have c1 := rlvalid_v k.lg (by omega)
  have c2 := rplvalid_v k.pl (by omega)
  have c3 := rlkvalidX k.lk h hq
  generalize lgB k.lg = b1 at *
  generalize plB k.pl = b2 at *
  (unfold Tryz.f149; refine rn trivial ?_)
  have F := trivial
  refine rn F ?_
  repeat' (first
    | with_reducible exact True.intro
    | (refine sG F ?_ ?_ <;> intro hZ)
    | refine vp F (c1) ?_
    | refine vp F (c2) ?_
    | refine vp F (c3) ?_)
  all_goals first | rfl | skip
theorem rkvalidX (k : Kn) (hk : k.smX) (h : 1024 < k.lk.sum) (hq : k.lk.held.length ≤ 10000000 ∧ k.lk.wait.length ≤ 10000000) : VCalls Tryz.prog 129 [.agg k.d] [] (Ret (.bool false)) := by
  refine dd Tryz.func129 ?_
  have c1 := rpartsX k hk h hq
  (unfold Tryz.f129; refine rn trivial ?_)
  have F := trivial
  refine rn F ?_
  repeat' (first
    | with_reducible exact True.intro
    | refine vp F (c1) ?_)
  all_goals first | rfl | skip
structure AdS (x : Lg) (n : Nat) where
  i : Nat
  k : Kn
  hi : i ≤ n
  hk : k.sm
  he : Ev x k.lg
@[go_sem] def Zk : List DV := [.int .i64 0, .int .i64 0, .int .i64 0, .pv (.slc []), .int .i64 0, .int .i64 0, .pv (.slc []), .int .i64 0, .pv (.slc []), .pv (.slc []), .pv (.slc []), .pv (.slc []), .pv (.slc [])]
theorem radopt_w (x : Lg) (hx : x.es.length ≤ 4096) (a : An) (ha : a.sm 10000) (n : Int) : VCalls Tryz.prog 187 [.agg x.c, .agg a.d, .int .i64 n] [] (RetS kiD fun r => r.1.sm ∧ (r.2 = 0 → Ev x r.1.lg)) := by
  refine dk Tryz.func187 ?_
  obtain ⟨h1, h2, h3, h4⟩ := ha
  have c1 := rpnew_v n
  have hf := plNew_fs n
  generalize plNew n = p at *
  obtain ⟨p, e0⟩ := p
  dsimp only at c1 hf
  have err : ∀ z, z ≠ 0 → RetS kiD (fun r => r.1.sm ∧ (r.2 = 0 → Ev x r.1.lg)) (kiD (Kn0, z)) [] := fun z hz => ⟨rfl, rfl, (Kn0, z), rfl, Kn0_sm, fun h => absurd h hz⟩
  (unfold Tryz.f187; refine rn trivial ?_)
  have F := trivial
  refine rn F ?_
  repeat' (first
    | with_reducible exact True.intro
    | (refine sB F ?_ ?_ <;> intro hZ)
    | refine vp F (c1) ?_)
  all_goals first | exact err 1 (by decide) | skip
  by_cases hs : a.lk.length ≤ 1024
  rotate_left
  · have c2 := rkvalidX ⟨a.pg, a.nx, x, p, ⟨a.lk, []⟩, a.lo, a.ix, a.la⟩ ⟨hx, by dsimp only; rw [hf]; exact Nat.zero_le _, h1, h4, h3⟩ (by unfold Lk.sum; simp; omega) ⟨by dsimp only; omega, Nat.zero_le _⟩
    have F := trivial
    refine rn F ?_
    refine VCalls.wkH ?_; simp only [hpwk_nil, hpwk_cons, wk_go_nil, wk_go_cons, DV.wk, PV.wk, wk_E]
    have F := trivial
    refine rn F ?_
    repeat' (first
      | with_reducible exact True.intro
      | refine vp F (c2) ?_)
    exact err 15 (by decide)
  have hk0 : (⟨a.pg, a.nx, x, p, ⟨a.lk, []⟩, a.lo, a.ix, a.la⟩ : Kn).sm := ⟨hx, by dsimp only; rw [hf]; exact Nat.zero_le _, by unfold Lk.sum; simp; omega, h1, h4, h3⟩
  have c2 := rkvalid_w ⟨a.pg, a.nx, x, p, ⟨a.lk, []⟩, a.lo, a.ix, a.la⟩ hk0
  have F := trivial
  refine rn F ?_
  refine VCalls.wkH ?_; simp only [hpwk_nil, hpwk_cons, wk_go_nil, wk_go_cons, DV.wk, PV.wk, wk_E]
  have F := trivial
  refine rn F ?_
  repeat' (first
    | with_reducible exact True.intro
    | (refine sB F ?_ ?_ <;> intro hZ)
    | (refine vc_S (c2) rfl ?_; rintro b hb; refine rn F ?_))
  all_goals first | exact err 15 (by decide) | skip
  have hlo := h1.1
  refine vloopW (fun s : AdS x a.lo.length => ⟨72, 0, [(11, .int .i64 s.i), (10, .ptr 4 0), (6, .ptr 2 0), (4, .ptr 1 0)], [⟨25, true, x.c⟩, ⟨269, true, a.d⟩, ⟨72, true, Kn.d Kn0⟩, ⟨62, true, p.d⟩, ⟨72, true, s.k.d⟩]⟩) (fun s => a.lo.length - s.i) ⟨0, _, Nat.zero_le _, hk0, Ev.refl _⟩ (gc [0, 1, 2, 3, 4]) ?_
  rintro ⟨i, k, hi, hk, he⟩
  dsimp only
  by_cases hil : i < a.lo.length
  rotate_left
  · skip
    have F := trivial
    refine rn F ?_
    exact ⟨rfl, rfl, (k, 0), rfl, hk, fun _ => he⟩
  have hg := fzT_g a.lo i hil
  generalize a.lo.getD i Tx0 = t at *
  have c3 := rkadd_w k hk ⟨0, 4, t.id, 0, 0, 0, Ch0, []⟩
  have F := @hg
  refine rn F ?_
  repeat' (first
    | with_reducible exact True.intro
    | (refine sB F ?_ ?_ <;> intro hZ)
    | (refine vc_S (c3) rfl ?_; rintro ⟨k1, n1, e1⟩ hq; refine rn F ?_)
    | (refine vspine (id := 11) [0, 1, 2, 3, 4, 5, 6, 7] [⟨[], [], 8, [1, 2, 3, 4, 5, 6], [9, 10, 11, 12]⟩, ⟨[], [], 13, [11, 12], []⟩, ⟨[], [], 14, [], []⟩] (by kernel_rfl) (by kernel_rfl) ?_; refine rn F ?_))
  all_goals first
    | exact err _ (by assumption)
    | exact ⟨⟨i + 1, k, hil, hk, he⟩, by dsimp only; omega, (gc [0, 1, 2, 3, 4])⟩
    | exact ⟨⟨i + 1, k1, hil, hq.1, he.trans (addQ_ev hq (by assumption)).1⟩, by dsimp only; omega, (gc [0, 1, 2, 3, 4])⟩
    | skip
end Go.Proofs.YtipnkkooklhfgaaGreat

namespace Go.Proofs.YtipnkkooklhfgaaGreat
open Go.V Go
theorem openL_len (s : List UInt8) : (openL s).1.es.length ≤ 4096 := by
  unfold openL
  split
  · exact opn_len _ _ _ _
  · exact Nat.zero_le _
theorem ropen20_w (v : Dv) (hv : v.ps.length ≤ 64) (s : List UInt8) (hs : s.length ≤ 100000000) (n m : Int) : VCalls Tryz.prog 148 [.agg v.d, .pv (.str s), .int .i64 n, .int .i64 m] [] (RetS svD fun r => r.1.sm ∧ (r.2 = 0 → (openL s).2 = 0 ∧ Ev (openL s).1 r.1.k.lg)) := by
  refine dk Tryz.func148 ?_
  have c1 := ropen_v s hs
  have hl := openL_len s
  generalize openL s = o at *
  obtain ⟨x, e0⟩ := o
  dsimp only at hl c1 ⊢
  have c2 := ranalyse_w x hl n
  have c3 := fun a ha => radopt_w x hl a ha m
  have err : ∀ z, z ≠ 0 → RetS svD (fun r => r.1.sm ∧ (r.2 = 0 → e0 = 0 ∧ Ev x r.1.k.lg)) (svD (Sv0, z)) [] := fun z hz => ⟨rfl, rfl, (Sv0, z), rfl, Sv0_sm, fun h => absurd h hz⟩
  (unfold Tryz.f148; refine rn trivial ?_)
  have F := trivial
  refine rn F ?_
  repeat' (first
    | with_reducible exact True.intro
    | (refine sB F ?_ ?_ <;> intro hZ)
    | refine vp F (c1) ?_
    | (refine vc_S (c2) rfl ?_; rintro ⟨a, e1⟩ ha; refine rn F ?_)
    | (refine vc_S (c3 a ha) rfl ?_; rintro ⟨k, e2⟩ hk; refine rn F ?_))
  all_goals first
    | exact err _ (by assumption)
    | exact ⟨rfl, rfl, (⟨k, v⟩, 0), rfl, ⟨hk.1, hv⟩, fun _ => ⟨by assumption, hk.2 (by assumption)⟩⟩
    | skip
theorem ropen21_w (v : Dv) (hv : v.ps.length ≤ 64) (s : List UInt8) (hs : s.length ≤ 100000000) (n m : Int) : VCalls Tryz.prog 128 [.agg v.d, .pv (.str s), .int .i64 n, .int .i64 m] [] (RetS svD fun r => r.1.sm ∧ (r.2 = 0 → (openL s).2 = 0 ∧ Ev (openL s).1 r.1.k.lg)) := by
  refine dk Tryz.func128 ?_
  have c1 := ropen20_w v hv s hs n m
  generalize openL s = o at *
  (unfold Tryz.f128; refine rn trivial ?_)
  have F := trivial
  refine rn F ?_
  repeat' (first
    | with_reducible exact True.intro
    | (refine vc_S (c1) rfl ?_; rintro ⟨k, e⟩ hk; refine rn F ?_))
  all_goals first
    | exact ⟨rfl, rfl, (k, e), rfl, hk⟩
    | skip
end Go.Proofs.YtipnkkooklhfgaaGreat

namespace Go.Proofs.YtipnkkooklhfgaaGreat
open Go.V Go
attribute [local go_sem] iteLe
@[go_sem] def crD (a : Dv × Lg × Int) : DV := .tup [.agg a.1.d, .pv (.str (crashL a.2.1 a.2.2))]
def crQ (s : Sv) (a : Dv × Lg × Int) : Prop := a.1.ps.length ≤ 64 ∧ a.2.1.f = s.k.lg.f ∧ a.2.1.es = s.k.lg.es ∧ (lgB s.k.lg = true → lgB a.2.1 = true)
theorem rscrash_w (s : Sv) (hs : s.sm) (torn id cut : Int) : VCalls Tryz.prog 127 [.agg s.d, .int .i64 torn, .int .i64 id, .int .i64 cut] [] (RetS crD (crQ s)) := by
  refine dk Tryz.func127 ?_
  have c1 := rpfind_v s.k.pl (Nat.le_trans hs.1.2.1 (by decide)) id
  have hl := hs.1.1
  have c2 := rcrash_v s.k.lg (by omega) torn
  have c3 := fun d => rcrash_v ⟨s.k.lg.f, s.k.lg.es, d⟩ (by dsimp only; omega) torn
  have h0 : crQ s (s.v, s.k.lg, torn) := ⟨hs.2, rfl, rfl, fun h => h⟩
  (unfold Tryz.f127; refine rn trivial ?_)
  have F := trivial
  refine rn F ?_
  repeat' (first
    | with_reducible exact True.intro
    | (refine vspine (id := 1) [0, 1, 2, 3] [⟨[4, 5], [4], 6, [2, 3], []⟩, ⟨[5], [5], 7, [], []⟩] (by kernel_rfl) (by kernel_rfl) ?_; refine rn F ?_))
  refine vp hl c1 ?_
  rcases findS_cases s.k.pl id with hn | ⟨_, i, hi, hfi, _⟩
  · rw [hn]
    refine rn @hl ?_
    have F := trivial
    refine rn F ?_
    repeat' (first
      | with_reducible exact True.intro
      | refine vp F (c2) ?_
      | (refine vspine (id := 9) [0, 1, 2, 3] [⟨[], [], 4, [0, 1], []⟩, ⟨[], [], 5, [1, 2, 3], []⟩, ⟨[], [], 6, [], []⟩] (by kernel_rfl) (by kernel_rfl) ?_; refine rn F ?_))
    exact ⟨rfl, rfl, (s.v, s.k.lg, torn), rfl, h0⟩
  · rw [hfi]
    have hg := fzF_at s.k.pl.fs i hi
    generalize s.k.pl.fs.getD i Fm0 = f at *
    have c4 := rpenc_w f.pg
    have c5 := rkforce_w s.k hs.1 f.pg.lsn
    refine rn @hg ?_
    have c6 := fun b (hb : b.length ≤ 256) => rtear_w s.v (Nat.le_trans hs.2 (by decide)) id b (Nat.le_trans hb (by decide)) cut
    have F := @hg
    refine rn F ?_
    repeat' (first
      | with_reducible exact True.intro
      | (refine sB F ?_ ?_ <;> intro hZ)
      | refine vp F (c2) ?_
      | (refine vc_S (c4) rfl ?_; rintro ⟨b, e1⟩ hb; refine rn F ?_)
      | (refine vc_S (c5) rfl ?_; rintro d hd; refine rn F ?_)
      | (refine vc_S (c6 b hb) rfl ?_; rintro ⟨v2, e2⟩ hv; refine rn F ?_)
      | refine vp F (c3 d) ?_
      | (refine vspine (id := 5) [0, 1, 2, 3, 4, 5, 6, 7, 8] [⟨[], [], 9, [1, 2, 3, 4, 5, 6, 7], []⟩, ⟨[], [], 10, [], []⟩] (by kernel_rfl) (by kernel_rfl) ?_; refine rn F ?_)
      | (refine vspine (id := 9) [0, 1, 2, 3] [⟨[], [], 4, [0, 1], []⟩, ⟨[], [], 5, [1, 2, 3], []⟩, ⟨[], [], 6, [], []⟩] (by kernel_rfl) (by kernel_rfl) ?_; refine rn F ?_))
    all_goals first
      | exact ⟨rfl, rfl, (s.v, s.k.lg, torn), rfl, h0⟩
      | exact ⟨rfl, rfl, (v2, ⟨s.k.lg.f, s.k.lg.es, d⟩, torn), rfl, hv, rfl, rfl, hd⟩
      | exact ⟨rfl, rfl, (s.v, ⟨s.k.lg.f, s.k.lg.es, d⟩, torn), rfl, hs.2, rfl, rfl, hd⟩
      | skip
end Go.Proofs.YtipnkkooklhfgaaGreat

namespace Go.Proofs.YtipnkkooklhfgaaGreat
open Go.V Go
attribute [local go_sem] iteLe
theorem crash_lgI {x y : Lg} {t : Int} (hx : LgI x) (hf : y.f = x.f) (hv : lgB y = true) {z : Lg} (he : Ev (openL (crashL y t)).1 z) : LgI z := by
  obtain ⟨n, h1, h2, h3⟩ := crash_open hv t
  rw [h3] at he
  have hd := lgB_hd hv
  simp only [Lg.hd] at hd
  have hl : (y.es.take n).length = n := by rw [List.length_take]; omega
  refine ⟨he.ok (lgB_of (x := ⟨y.f, y.es.take n, y.f + n - 1⟩) ⟨hd.1, hd.2.1, by dsimp only; omega, by dsimp only; omega, by dsimp only; omega⟩ (show seqE y.f (y.es.take n) from seqE_take (lgB_seq hv) n)), he.f.trans (hf.trans hx.2)⟩
theorem crashL_le {x : Lg} (hx : x.es.length ≤ 4096) (t : Int) : (crashL x t).length ≤ 100000000 := by
  have h9 := headL_len x.f
  have h8 := durB_len x.es x.d
  have h7 := resB_len x.es x.d
  unfold crashL
  split
  · rw [List.length_append, List.length_append, List.length_take]
    omega
  · exact Nat.zero_le _
structure Tz (n : Nat) where
  i : Nat
  l : List Int
  hi : i ≤ n
  hl : l.length = n
def crI (c : Sc) (n m : Nat) (c' : Sc) (_ : Rs) : Prop := m = 0 ∧ c'.sm n ∧ (LgI c.s.k.lg → LgI c'.s.k.lg)
theorem rcrashS_w (c : Sc) (n : Nat) (hn : n ≤ 2000) (hc : c.sm n) (t : Sp) : VCalls Tryz.prog 117 [.ptr 0 0, .agg t.d] [scB c 1 2, scT c.tx, scR c.rd] (ScEnd rsD (crI c n)) := by
  refine vcalls_keepg (fn := Tryz.f117) Tryz.func117 rfl (by kernel_rfl) (by simp [Tryz.f117]) ?_
  have c1 := rscrash_w c.s hc.1 t.torn t.pg t.cut
  (unfold Tryz.f117; refine rn trivial ?_)
  have F := trivial
  refine rn F ?_
  repeat' (first
    | with_reducible exact True.intro
    | (refine vc_S (c1) rfl ?_; rintro ⟨v, y, tn⟩ hq; refine rn F ?_)
    | (refine vspineT (id := 1) [[], [0], [0, 1], [0, 1, 2], [], [4], [], [6], [], [8], [0, 1, 2, 3, 4, 5, 6, 7, 8, 9], [0, 1, 2, 3, 4, 5, 6, 7, 8, 9, 10], [0, 1, 2, 3, 4, 5, 6, 7, 8, 9, 10, 11], [0, 1, 2, 3, 4, 5, 6, 7, 8, 9, 10, 11], [], [0, 1, 2, 3, 4, 5, 6, 7, 8, 9, 10, 11, 12, 14], [0, 1, 2, 3, 4, 5, 6, 7, 8, 9, 10, 11, 12, 13, 14, 15]] [0, 1, 2, 3, 4, 5, 6, 7, 8, 9] [⟨[14], [], 10, [], [11, 12, 13]⟩, ⟨[14], [14], 15, [13], []⟩, ⟨[], [], 16, [], []⟩] (by kernel_rfl) (by kernel_rfl) (by kernel_rfl) ?_; refine rn F ?_)
    | (refine vspineT (id := 2) [[], [], [], [2], [2, 3], [2, 3, 4], [2, 3, 4, 5], [2, 3, 4, 5, 6], [], [8], [8, 9], [8, 9, 10], [8, 9, 10, 11], [8, 9, 10, 11, 12], [8, 9, 10, 11, 12, 13], [0, 1, 2, 3, 4, 5, 6, 7, 8, 9, 10, 11, 12, 13, 14], [0, 1, 2, 3, 4, 5, 6, 7, 8, 9, 10, 11, 12, 13, 14, 15], [0, 1, 2, 3, 4, 5, 6, 7, 8, 9, 10, 11, 12, 13, 14, 15, 16], [0, 1, 2, 3, 4, 5, 6, 7, 8, 9, 10, 11, 12, 13, 14, 15, 16], [], [0, 1, 2, 3, 4, 5, 6, 7, 8, 9, 10, 11, 12, 13, 14, 15, 16, 17, 19], [0, 1, 2, 3, 4, 5, 6, 7, 8, 9, 10, 11, 12, 13, 14, 15, 16, 17, 18, 19, 20]] [0, 1, 2, 3, 4, 5, 6, 7, 8, 9, 10, 11, 12, 13, 14] [⟨[19], [], 15, [], [16, 17, 18]⟩, ⟨[19], [19], 20, [18], []⟩, ⟨[], [], 21, [], []⟩] (by kernel_rfl) (by kernel_rfl) (by kernel_rfl) ?_; refine rn F ?_))
  obtain ⟨q1, q2, q3, q4⟩ := hq
  dsimp only at q1 q2 q3 q4
  have c2 := ropen21_w v q1 (crashL y tn) (crashL_le (by rw [q3]; exact hc.1.1.1) tn) c.s.k.pg c.s.k.pl.size
  have hI := fun (h : LgI c.s.k.lg) (z : Lg) (he : Ev (openL (crashL y tn)).1 z) => crash_lgI h q2 (q4 h.1) he
  generalize crashL y tn = str at *
  generalize openL str = o at *
  have F := trivial
  refine rn F ?_
  repeat' (first
    | with_reducible exact True.intro
    | (refine vc_S (c2) rfl ?_; rintro ⟨s2, e⟩ hk; refine rn F ?_))
  obtain ⟨k1, k2⟩ := hk
  dsimp only at k1 k2
  refine vloopW (fun r : Tz c.tx.length => ⟨70, 3, [(9, .int .i64 r.i), (8, .int .i64 e), (7, .ptr 4 0), (4, .ptr 3 0), (0, .ptr 0 0)], [scB ⟨c.s, r.l, c.rd, c.dead⟩ 1 2, scT r.l, scR c.rd, ⟨156, true, [.int .i64 0, .int .i64 0, .int .i64 0, .bool false, .pv (.str []), .int .i64 0]⟩, ⟨102, true, s2.d⟩]⟩) (fun r => c.tx.length - r.i) ⟨0, c.tx, Nat.zero_le _, rfl⟩ (gc [0, 1, 2, 4, 6]) ?_
  rintro ⟨i, l, hi, hl⟩
  dsimp only
  have hsm : ∀ (z : Sv) (d : Bool), z.sm → (⟨z, l, c.rd, d⟩ : Sc).sm n := fun z d hz => ⟨hz, by dsimp only; rw [hl]; exact hc.2.1, hc.2.2⟩
  have htx := hc.2.1
  by_cases hil : i < c.tx.length
  · have hil2 : i < l.length := by omega
    have hset := cellsI_set l i 0
    have F := @hil2
    refine rn F ?_
    refine ⟨⟨i + 1, l.set i 0, hil, by rw [List.length_set]; exact hl⟩, by dsimp only; omega, ?_⟩
    dsimp only
    rw [List.length_set]
    exact (gc [0, 1, 2, 3, 4])
  have hil2 : ¬ i < l.length := by omega
  by_cases he : e = 0
  · subst he
    have c3 := rresult_v 0
    have F := trivial
    refine rn F ?_
    repeat' (first
      | with_reducible exact True.intro
      | refine vp F (c3) ?_)
    exact vpostG_gc ⟨70, 3, [(4, .ptr 3 0)], [scB ⟨s2, l, c.rd, c.dead⟩ 1 2, scT l, scR c.rd, ⟨156, true, (resR 0).d⟩]⟩ (gc [0, 1, 2, 3]) ⟨⟨s2, l, c.rd, c.dead⟩, resR 0, _, rfl, rfl, .inl ⟨⟨rfl, hsm s2 _ k1, fun h => hI h _ (k2 rfl).2⟩, rfl⟩⟩
  · have c3 := rresult_v e
    have F := @he
    refine rn F ?_
    repeat' (first
      | with_reducible exact True.intro
      | refine vp F (c3) ?_)
    exact vpostG_gc ⟨70, 3, [(4, .ptr 3 0)], [scB ⟨c.s, l, c.rd, true⟩ 1 2, scT l, scR c.rd, ⟨156, true, (resR e).d⟩]⟩ (gc [0, 1, 2, 3]) ⟨⟨c.s, l, c.rd, true⟩, resR e, _, rfl, rfl, .inl ⟨⟨rfl, hsm c.s _ hc.1, fun h => h⟩, rfl⟩⟩
theorem rstep6_w (c : Sc) (n : Nat) (hn : n ≤ 2000) (hc : c.sm n) (t : Sp) (ht : t.kind = 6) : StepC LgI c n t := by
  refine vcalls_keepg (fn := Tryz.f102) Tryz.func102 rfl (by kernel_rfl) (by simp [Tryz.f102]) ?_
  obtain ⟨k, tx, pg, torn, cut, a⟩ := t
  dsimp only at ht
  subst ht
  (unfold Tryz.f102; refine rn trivial ?_)
  refine vc_sc (c := c) 0 1 2 (rcrashS_w c n hn hc ⟨6, tx, pg, torn, cut, a⟩) rfl rfl rfl (by decide) (by decide) (by decide) rfl rfl ?_ (fun _ _ h => absurd h.1 (by decide)) (fun _ _ h => absurd h.1 (by decide))
  rintro c1 r1 ⟨-, q1, q2⟩ B
  refine rn trivial ?_
  exact vpostG_gc ⟨132, 3, [(4, .ptr 3 0)], [scB c1 1 2, scT (Sc.tx c1), scR (Sc.rd c1), ⟨156, true, Rs.d (r1)⟩]⟩ (gc [0, 1, 2, 4]) ⟨c1, r1, _, rfl, rfl, .inl ⟨⟨⟨q1.1, Nat.le_succ_of_le q1.2.1, Nat.le_succ_of_le q1.2.2⟩, q2⟩, rfl⟩⟩
end Go.Proofs.YtipnkkooklhfgaaGreat

namespace Go.Proofs.YtipnkkooklhfgaaGreat
open Go.V Go
attribute [local go_sem] cb cc
theorem step1_v (c : C) (m n : Nat) (h1 : 1 ≤ m) (h2 : m ≤ 1000) (h3 : 1 ≤ n) (h4 : n ≤ 1000) : VCalls Tryz.prog 103 [.ptr 0 0, .int .i64 m, .int .i64 n, .bool true] [cb c] (CX fun r => ∃ t : Sp, r = .agg t.d) := by
  refine dd Tryz.func103 ?_
  (unfold Tryz.f103; refine rn trivial ?_)
  have F := trivial
  refine rn F ?_
  repeat' (first
    | with_reducible exact True.intro
    | (refine sB F ?_ ?_ <;> intro hZ)
    | (refine vc_cx (k := 0) (next_v _ 16 (by omega) (by omega)) rfl rfl ?_; rintro _ _ ⟨_, rfl, _⟩; refine rn F ?_)
    | (refine vc_cx (k := 0) (next_v _ 4 (by omega) (by omega)) rfl rfl ?_; rintro _ _ ⟨_, rfl, _⟩; refine rn F ?_)
    | (refine vc_cx (k := 0) (next_v _ 90 (by omega) (by omega)) rfl rfl ?_; rintro _ _ ⟨_, rfl, _⟩; refine rn F ?_)
    | (refine vc_cx (k := 0) (next_v _ 257 (by omega) (by omega)) rfl rfl ?_; rintro _ _ ⟨_, rfl, _⟩; refine rn F ?_)
    | (refine vc_cx (k := 0) (next_v _ m (by omega) (by omega)) rfl rfl ?_; rintro _ _ ⟨_, rfl, _⟩; refine rn F ?_)
    | (refine vc_cx (k := 0) (next_v _ n (by omega) (by omega)) rfl rfl ?_; rintro _ _ ⟨_, rfl, _⟩; refine rn F ?_)
    | (refine vc_cx (k := 0) (next_i _ ((m : Int) + 1) (by omega) (by omega)) rfl rfl ?_; rintro _ _ ⟨_, rfl, _⟩; refine rn F ?_)
    | (refine vc_cx (k := 0) (action_v _ m h1 h2) rfl rfl ?_; rintro _ _ ⟨_, rfl, _⟩; refine rn F ?_))
  all_goals exact ⟨_, rfl, rfl, cc_nums _, rfl, ⟨⟨_, _, _, _, _, ⟨_, _, _, _⟩⟩, rfl⟩, _, rfl⟩
structure Sd1 (most : Nat) where
  k : Nat
  c : C
  l : List Sp
  hk : k + l.length ≤ most + 2
theorem sched1_v (c : C) (m most : Nat) (h1 : 1 ≤ m) (h2 : m ≤ 1000) (hm : most ≤ 1000) : VCalls Tryz.prog 88 [.ptr 0 0, .int .i64 m, .int .i64 most, .bool true] [cb c] (CX fun r => ∃ l : List Sp, r = .pv (.sl (fz encV l)) ∧ l.length ≤ most + 2) := by
  refine dd Tryz.func88 ?_
  (unfold Tryz.f88; refine rn trivial ?_)
  refine vc_cx (k := 0) (c := c) (next_i c ((most : Int) + 1) (by omega) (by omega)) rfl rfl ?_
  rintro _ c1 ⟨k, rfl, hk⟩
  refine rn trivial ?_
  refine vloopW (fun s : Sd1 most => ⟨30, 1, [(10, .int .i64 s.k), (9, .own 1 9 0 s.l.length), (3, .bool true), (1, .int .i64 m), (0, .ptr 0 0)], [cb s.c, ⟨161, true, cells encV s.l⟩]⟩) (fun s => s.k) ⟨k, c1, [spB, spB], by simp; omega⟩ (gc [0, 1]) ?_
  rintro ⟨k, c2, l, hk⟩
  dsimp only
  have hb : (l.length + 1) * 80 ≤ 140737488355328 := by omega
  by_cases hc : 0 < k
  · obtain ⟨k, rfl⟩ : ∃ k' : Nat, k = k' + 1 := ⟨k - 1, by omega⟩
    have hkk : ((k + 1 : Nat) : Int) - 1 = k := by omega
    have F := (And.intro @hb @hkk)
    refine rn F ?_
    refine vc_cx (k := 0) (c := c2) (step1_v c2 m 5 h1 h2 (by omega) (by omega)) rfl rfl ?_
    rintro _ c3 ⟨t, rfl⟩
    have F := (And.intro @hb (And.intro @app_V @hkk))
    refine rn F ?_
    have hl2 : (l ++ [t]).length = l.length + 1 := by simp
    refine ⟨⟨k, c3, l ++ [t], by rw [hl2]; omega⟩, by dsimp only; omega, ?_⟩
    dsimp only
    rw [hl2]
    exact (gc [0, 3])
  · skip
    have F := @hb
    refine rn F ?_
    exact ⟨_, rfl, rfl, cc_nums _, rfl, ⟨l, rfl, by omega⟩, _, rfl⟩
theorem service1_v (c : C) (most : Nat) (hm : most ≤ 1000) : VCalls Tryz.prog 62 [.ptr 0 0, .int .i64 most, .bool true] [cb c] (CX fun r => ∃ s : Sv, r = .agg s.d ∧ s.sm ∧ LgI s.k.lg) := by
  refine dd Tryz.func62 ?_
  (unfold Tryz.f62; refine rn trivial ?_)
  refine vc_cx (k := 0) (c := c) (next_v c 4 (by omega) (by omega)) rfl rfl ?_
  rintro _ c1 ⟨x, rfl, hx⟩
  obtain ⟨m, hm1, hm2⟩ : ∃ m : Nat, 1 + (x : Int) = m ∧ m ≤ 4 := ⟨1 + x, by omega, by omega⟩
  refine rn @hm1 ?_
  refine vc_cx (k := 0) (c := c1) (next_v c1 3 (by omega) (by omega)) rfl rfl ?_
  rintro _ c2 ⟨y, rfl, hy⟩
  refine rn trivial ?_
  refine vc_S (rsnew0 m (1 + y) (by omega) (by omega)) rfl ?_
  rintro ⟨s, e⟩ ⟨hs, he, hg⟩
  dsimp only at hs he hg
  subst he
  have F := trivial
  refine rn F ?_
  repeat' (first
    | with_reducible exact True.intro
    | (refine vspine (id := 3) [0, 1, 2, 3, 4] [⟨[], [], 5, [0], []⟩, ⟨[], [], 6, [1, 2, 3, 4], [7, 8, 9, 10]⟩, ⟨[], [], 11, [9, 10], []⟩] (by kernel_rfl) (by kernel_rfl) ?_; refine rn F ?_))
  refine vc_cx (k := 0) (c := c2) (sched1_v c2 m most (by omega) (by omega) hm) rfl rfl ?_
  rintro _ c3 ⟨l, rfl, hl⟩
  have c9 := rrun_w LgI (fun x y h hx => ⟨h.ok hx.1, h.f.trans hx.2⟩) s hs l (fun i _ hk c n hn hc => rstep6_w c n hn hc _ hk)
  refine rn trivial ?_
  refine vc_S c9 rfl ?_
  rintro ⟨s1, out, rd⟩ ⟨q1, q2⟩
  refine rn trivial ?_
  exact ⟨_, rfl, rfl, cc_nums _, rfl, ⟨s1, rfl, q1, q2 (by rw [hg]; exact ⟨Lg1_ok, rfl⟩)⟩, _, rfl⟩
theorem kernel1_v (c : C) (most : Nat) (hm : most ≤ 1000) : VCalls Tryz.prog 38 [.ptr 0 0, .int .i64 most, .bool true] [cb c] (CX fun r => ∃ k : Kn, r = .agg k.d ∧ k.sm ∧ LgI k.lg) := by
  refine dd Tryz.func38 ?_
  (unfold Tryz.f38; refine rn trivial ?_)
  refine vc_cx (k := 0) (c := c) (service1_v c most hm) rfl rfl ?_
  rintro _ c1 ⟨s, rfl, hs, hi⟩
  refine rn trivial ?_
  exact ⟨_, rfl, rfl, cc_nums _, rfl, ⟨s.k, rfl, hs.1, hi⟩, _, rfl⟩
end Go.Proofs.YtipnkkooklhfgaaGreat

namespace Go.Proofs.YtipnkkooklhfgaaGreat
open Go.V Go
attribute [local go_sem] cb cc
theorem seqE_drop {l : Int} {es : List E} (h : seqE l es) (n : Nat) : seqE (l + n) (es.drop n) := fun i hi => by
  rw [List.length_drop] at hi
  have := h (n + i) (by omega)
  rw [show (es.drop n).getD i E0 = es.getD (n + i) E0 by simp [List.getD_eq_getElem?_getD]]
  exact ⟨by rw [this.1]; omega, this.2⟩
structure DLg (x : Lg) : Prop where
  ok : lgB x = true
  len : x.es.length ≤ 4096
  end_ : x.f + x.es.length ≤ 4097
theorem DLg.lsn {x : Lg} (h : DLg x) (i : Nat) (hi : i < x.es.length) : 1 ≤ (x.es.getD i E0).lsn ∧ (x.es.getD i E0).lsn ≤ 1000000000 := by
  have h1 := lgB_seq h.ok i hi
  have h2 := lgB_hd h.ok
  simp only [Lg.hd] at h2
  have h3 := h.end_
  rw [h1.1]
  omega
theorem cutS_dl {z : Lg} (hz : lgB z = true) (hf : z.f = 1) {u : Int} (h0 : 0 ≤ u) (hu : z.f + u ≤ z.d + 1) : DLg (cutS z (z.f + u)).1 := by
  have hd := lgB_hd hz
  simp only [Lg.hd] at hd
  unfold cutS
  rw [if_neg (by rw [hz]; decide), if_neg (by unfold Lg.end_; omega), if_neg (by omega)]
  have e1 : z.f + u - z.f = u := by omega
  dsimp only
  rw [e1]
  have hs := seqE_drop (lgB_seq hz) u.toNat
  rw [show ((u.toNat : Nat) : Int) = u by omega] at hs
  have hl : (z.es.drop u.toNat).length = z.es.length - u.toNat := List.length_drop
  exact ⟨lgB_of (x := ⟨z.f + u, z.es.drop u.toNat, z.d⟩) ⟨by dsimp only; omega, by dsimp only; omega, by dsimp only; omega, by dsimp only; omega, by dsimp only; omega⟩ hs, by dsimp only; omega, by dsimp only; omega⟩
theorem dlog_v (c : C) (most : Nat) (hm : most ≤ 1000) : VCalls Tryz.prog 12 [.ptr 0 0, .int .i64 most] [cb c] (CX fun r => ∃ x : Lg, r = .agg x.c ∧ DLg x) := by
  refine dd Tryz.func12 ?_
  (unfold Tryz.f12; refine rn trivial ?_)
  refine vc_cx (k := 0) (c := c) (kernel1_v c most hm) rfl rfl ?_
  rintro _ c1 ⟨k, rfl, hk, hv, hf⟩
  obtain ⟨pg, nx, x, pl, lk, tx, ix, la⟩ := k
  dsimp only at hv hf
  have hl : x.es.length ≤ 4096 := hk.1
  refine rn trivial ?_
  refine vc_cx (k := 0) (c := c1) (next_v c1 2 (by omega) (by omega)) rfl rfl ?_
  rintro _ c2 ⟨y, rfl, hy⟩
  have q1 := rlLast_v x (by omega)
  have q2 := rforce_v x (by omega) (lastS x)
  have hF : lgB (forceS x (lastS x)).1 = true ∧ (forceS x (lastS x)).1.f = 1 := by
    have hd := lgB_hd hv
    simp only [Lg.hd] at hd
    have e1 : lastS x = x.end_ := if_pos hv
    have h0 : (forceS x (lastS x)).2 = 0 := by
      unfold forceS
      rw [if_neg (by rw [hv]; decide), if_neg (by rw [e1]; omega)]
    exact ⟨(forceS_ev h0).ok hv, (forceS_ev h0).f.trans hf⟩
  generalize forceS x (lastS x) = F0 at *
  obtain ⟨z0, e0⟩ := F0
  dsimp only at hF
  have F := trivial
  refine rn F ?_
  repeat' (first
    | with_reducible exact True.intro
    | (refine sB F ?_ ?_ <;> intro hZ)
    | refine vp F (q1) ?_
    | refine vp F (q2) ?_
    | (refine vspine (id := 3) [0, 1] [⟨[], [], 2, [0], []⟩, ⟨[], [], 3, [1], [4, 5, 6]⟩, ⟨[], [], 7, [6], []⟩] (by kernel_rfl) (by kernel_rfl) ?_; refine rn F ?_))
  case' refine_1 => obtain ⟨z, rfl, hz, hzf⟩ : ∃ z, z = z0 ∧ lgB z = true ∧ z.f = 1 := ⟨z0, rfl, hF⟩
  case' refine_2 => obtain ⟨z, rfl, hz, hzf⟩ : ∃ z, z = x ∧ lgB z = true ∧ z.f = 1 := ⟨x, rfl, hv, hf⟩
  all_goals
    have hd := lgB_hd hz
    simp only [Lg.hd] at hd
    have hl2 : z.es.length ≤ 4096 := hd.2.2.1
    refine vc_cx (k := 0) (c := c2) (next_v c2 5 (by omega) (by omega)) rfl rfl ?_
    rintro _ c3 ⟨w, rfl, hw⟩
    by_cases hq : (w : Int) = 0 ∧ z.d ≥ z.f
    · obtain ⟨hq1, hq2⟩ := hq
      have F := (And.intro @hq1 @hq2)
      refine rn F ?_
      repeat' (first
        | with_reducible exact True.intro
        | (refine vspine (id := 5) [0, 1, 2, 3, 4, 5, 6, 7, 8, 9] [⟨[], [], 10, [0, 1, 2, 4, 5, 6, 7, 8], [11]⟩, ⟨[], [], 12, [1, 2, 3, 4, 5, 6, 7, 8, 9], [13, 14, 15]⟩, ⟨[], [], 16, [15], []⟩] (by kernel_rfl) (by kernel_rfl) ?_; refine rn F ?_))
      refine vc_cx (k := 0) (c := c3) (next_i c3 (z.d - z.f + 2) (by omega) (by omega)) rfl rfl ?_
      rintro _ c4 ⟨u, rfl, hu⟩
      have q3 := rcut_v z (by omega) (z.f + u)
      have F := trivial
      refine rn F ?_
      repeat' (first
        | with_reducible exact True.intro
        | refine vp F (q3) ?_)
      exact ⟨_, rfl, rfl, cc_nums _, rfl, ⟨(cutS z (z.f + u)).1, rfl, cutS_dl hz hzf (by omega) (by omega)⟩, _, rfl⟩
    · skip
      have F := trivial
      refine rn F ?_
      repeat' (first
        | with_reducible exact True.intro
        | (refine sG F ?_ ?_ <;> intro hZ))
      all_goals first
        | exact ⟨_, rfl, rfl, cc_nums _, rfl, ⟨z, rfl, hz, hl2, by omega⟩, _, rfl⟩
        | (exfalso; omega)
        | skip
end Go.Proofs.YtipnkkooklhfgaaGreat

namespace Go.Proofs.YtipnkkooklhfgaaGreat
open Go.V Go
attribute [local go_sem] cb cc Lg.c
theorem gS (l : List (List UInt8)) (i : Nat) (h : i < l.length) : (cells encS l)[i]? = some (.pv (.str (l.getD i []))) := by
  have := congrArg (fun a => a[0]?) (cells_at encS l i h)
  rw [getD_eq l i h]
  simpa [encS] using this
theorem bytesL_len {x : Lg} (hx : x.es.length ≤ 4096) : (bytesL x).length ≤ 40000000 := by
  have h1 := headL_len x.f
  have h2 := fr_len x.es
  unfold bytesL
  split
  · rw [List.length_append]; omega
  · simp
theorem crashL_len' {x : Lg} (hx : x.es.length ≤ 4096) (t : Int) : (crashL x t).length ≤ 100000000 := crashL_le hx t
theorem jbytesLaw_v (l : List UInt8) (hl : l.length ≤ 9223372036854775807) (s : List UInt8) (hs : s.length ≤ 9223372036854775807) (torn : Int) : VCalls Tryz.prog 4 [.pv (.sl (fz encU l)), .pv (.str s), .int .i64 torn] [] (Ret (.bool true)) := by
  refine dd Tryz.func4 ?_
  have c0 := awake6_v
  (unfold Tryz.f4; refine rn trivial ?_)
  by_cases h4 : 400 < (s.length : Int)
  · skip
    have F := @h4
    refine rn F ?_
    repeat' (first
      | with_reducible exact True.intro
      | refine vp F (c0) ?_)
    all_goals rfl
  have F := @h4
  refine rn F ?_
  repeat' (first
    | with_reducible exact True.intro
    | refine vp F (c0) ?_)
  refine vc_draw (most := 200) (by omega) (by omega) hl fun c => ?_
  refine rn trivial ?_
  refine vc_cx (k := 0) (c := c) (dlog_v c 12 (by omega)) rfl rfl ?_
  rintro _ c1 ⟨x, rfl, hx⟩
  have hxl := hx.len
  refine rn trivial ?_
  refine vc_cx (k := 0) (c := c1) (oddlog_v c1 x hxl hx.lsn) rfl rfl ?_
  rintro _ c2 ⟨y, rfl, hyl⟩
  have q1 := rbytes_v x (by omega)
  have q2 := jbytes_v x (by omega)
  have q3 := rbytes_v y (by omega)
  have q4 := jbytes_v y (by omega)
  have hbl := bytesL_len hxl
  generalize bytesL x = good at *
  have F := trivial
  refine rn F ?_
  repeat' (first
    | with_reducible exact True.intro
    | refine vp F (q1) ?_
    | refine vp F (q2) ?_
    | refine vp F (q3) ?_
    | refine vp F (q4) ?_
    | (refine vspineT (id := 7) [[], [0], [], [0, 1, 2], [0, 1, 2, 3], [0, 1, 2, 3, 4], [0, 1, 2, 3, 4, 5], [0, 1, 2, 3, 4], [0, 1, 2, 3, 4, 5, 6, 7], [0, 1, 2, 3, 4, 5, 6, 7, 8], [0, 1, 2, 3, 4, 5, 6, 7, 8, 9]] [0, 2] [⟨[], [], 1, [2], [3, 4, 5, 7]⟩, ⟨[], [], 6, [7], []⟩, ⟨[], [], 8, [], [9, 10]⟩] (by kernel_rfl) (by kernel_rfl) (by kernel_rfl) ?_; refine rn F ?_))
  refine vc_cx (k := 0) (c := c2) (next_v c2 400 (by omega) (by omega)) rfl rfl ?_
  rintro _ c3 ⟨w, rfl, hw⟩
  have F := trivial
  refine rn F ?_
  refine vloopW (fun s0 : To 2 => ⟨122, 0, [(54, .int .i64 s0.i), (53, .int .i64 2), (52, .own 3 1 0 2), (10, .pv (.str good)), (9, .ptr 2 0), (8, .ptr 1 0), (7, .ptr 0 0), (1, .pv (.str s)), (2, .int .i64 torn)], [cb c3, ⟨25, true, x.c⟩, ⟨25, true, y.c⟩, ⟨3, true, [.int .i64 torn, .int .i64 w]⟩]⟩) (fun s0 => 2 - s0.i) ⟨0, Nat.zero_le _⟩ (gc [0, 1, 2, 3]) ?_
  rintro ⟨i, hi⟩
  dsimp only
  by_cases hin : i < 2
  · obtain ⟨t, ht⟩ : ∃ t : Int, ([.int .i64 torn, .int .i64 w] : List DV)[i]? = some (.int .i64 t) := by
      rcases (show i = 0 ∨ i = 1 by omega) with rfl | rfl
      · exact ⟨_, rfl⟩
      · exact ⟨_, rfl⟩
    have r1 := jcrash_v x (by omega) t
    have r2 := rcrash_v x (by omega) t
    have r3 := jcrash_v y (by omega) t
    have r4 := rcrash_v y (by omega) t
    have F := @ht
    refine rn F ?_
    repeat' (first
      | with_reducible exact True.intro
      | refine vp F (r1) ?_
      | refine vp F (r2) ?_
      | refine vp F (r3) ?_
      | refine vp F (r4) ?_
      | (refine vspineT (id := 12) [[], [], [0, 1], [], [], [0, 1, 2, 3, 4], [0, 1, 2, 3, 4, 5], [0, 1, 2, 3, 4, 5, 6], [0, 1, 2, 3, 4, 5, 6, 7], [0, 1, 2, 3, 4, 5, 6, 7], [0, 1, 2, 3, 4, 5, 6, 7, 8, 9], [0, 1, 2, 3, 4, 5, 6, 7], [0, 1, 2, 3, 4, 5, 6, 7], [0, 1, 2, 3, 4, 5, 6, 7, 8, 9, 10, 11, 12], [0, 1, 2, 3, 4, 5, 6, 7, 8, 9, 10, 11, 12, 13], [0, 1, 2, 3, 4, 5, 6, 7, 8, 9, 10, 11, 12, 13, 14]] [0, 1, 3, 4] [⟨[], [], 2, [3, 4], []⟩, ⟨[], [], 5, [], [6, 7, 8, 9, 11, 12]⟩, ⟨[], [], 10, [11, 12], []⟩, ⟨[], [], 13, [], [14, 15]⟩] (by kernel_rfl) (by kernel_rfl) (by kernel_rfl) ?_; refine rn F ?_))
    exact ⟨⟨i + 1, by omega⟩, by dsimp only; omega, (gc [0, 1, 2, 3])⟩
  have r5 := rcrash_v x (by omega) torn
  have hcl := crashL_len' hxl torn
  generalize crashL x torn = cr at *
  have F := trivial
  refine rn F ?_
  repeat' (first
    | with_reducible exact True.intro
    | (refine vspineT (id := 15) [[], [], [], [], [2, 3], [], [], [5, 6], [], [], [], [10], [10, 11], [2, 3, 4, 9, 10, 11, 12], [2, 3, 4, 8, 9, 10, 11, 12, 13], [], [], [15, 16], [], [], [2, 3, 4, 9, 10, 11, 12, 13, 18, 19], [0, 1, 2, 3, 4, 5, 6, 7, 8, 9, 10, 11, 12, 13, 14, 15, 16, 17, 18, 19, 20], [0, 1, 2, 3, 4, 5, 6, 7, 8, 9, 10, 11, 12, 13, 14, 15, 16, 17, 18, 19, 20, 21], []] [0, 1, 2, 3, 5, 6, 7, 8, 9, 10, 11, 12, 15, 16, 17, 18, 19, 23] [⟨[], [], 4, [0, 1, 5, 6, 7, 8, 9, 10, 11, 12, 15, 16, 17, 18, 19, 23], []⟩, ⟨[], [], 13, [0, 1, 5, 6, 7, 8, 15, 16, 17, 18, 19, 23], [14]⟩, ⟨[], [], 20, [0, 1, 5, 6, 7, 8, 15, 16, 17, 23, 14], []⟩, ⟨[], [], 21, [23], [22]⟩] (by kernel_rfl) (by kernel_rfl) (by kernel_rfl) ?_; refine rn F ?_))
  refine vc_cx (k := 0) (spoilt_v c3 good (by omega)) rfl rfl ?_
  rintro _ c4 ⟨sp, rfl, hsp⟩
  have F := trivial
  refine rn F ?_
  refine vc_cx (k := 0) (next_v c4 (good.length + 1) (by omega) (by omega)) rfl rfl ?_
  rintro _ c5 ⟨u, rfl, hu⟩
  have hug : u ≤ good.length := by omega
  have a1 := str_add (a := good) (b := s) (by omega)
  have a2 := str_add (a := good) (b := good) (by omega)
  have F := (And.intro @hug (And.intro @a1 @a2))
  refine rn F ?_
  repeat' (first
    | with_reducible exact True.intro
    | refine vp F (r5) ?_)
  obtain ⟨ls, hL, h7, hle⟩ : ∃ ls : List (List UInt8), ([.pv (.str s), .pv (.str good), .pv (.str sp), .pv (.str (good ++ s)), .pv (.str (good.take u)), .pv (.str (good ++ good)), .pv (.str cr)] : List DV) = cells encS ls ∧ ls.length = 7 ∧ ∀ t ∈ ls, t.length ≤ 100000000 :=
    ⟨[s, good, sp, good ++ s, good.take u, good ++ good, cr], rfl, rfl, by
      simp only [List.forall_mem_cons, List.length_append, List.length_take]
      exact ⟨by omega, by omega, by omega, by omega, by omega, by omega, by omega, fun _ h => by cases h⟩⟩
  rw [hL]
  refine vloopW (fun s0 : To 7 => ⟨122, 0, [(98, .int .i64 s0.i), (97, .int .i64 7), (96, .own 0 1 0 7)], [⟨9, true, cells encS ls⟩]⟩) (fun s0 => 7 - s0.i) ⟨0, Nat.zero_le _⟩ (gc [4]) ?_
  rintro ⟨i, hi⟩
  dsimp only
  by_cases hin : i < 7
  · have ht := gS ls i (by omega)
    have htl : (ls.getD i []).length ≤ 100000000 := by rw [getD_eq ls i (by omega)]; exact hle _ (List.getElem_mem _)
    generalize ls.getD i [] = t at *
    have r1 := jopen_v t htl
    have r2 := ropen_v t htl
    have hol := openL_len t
    generalize openL t = o at *
    have r3 := rsameL_v o.1 o.1 (by omega)
    rw [lgS_self] at r3
    have F := @ht
    refine rn F ?_
    repeat' (first
      | with_reducible exact True.intro
      | refine vp F (r1) ?_
      | refine vp F (r2) ?_
      | refine vp F (r3) ?_)
    exact ⟨⟨i + 1, by omega⟩, by dsimp only; omega, (gc [0])⟩
  · skip
    have F := trivial
    (refine rn F ?_; try with_reducible exact True.intro)
end Go.Proofs.YtipnkkooklhfgaaGreat

namespace Go.Proofs.YtipnkkooklhfgaaGreat
open Go.V Go
attribute [local go_sem] cb cc allEq leafEq appD lgD
theorem jget_v (x : Lg) (hx : x.es.length ≤ 9223372036854775807) (n : Int) : VCalls Tryz.prog 27 [.agg x.c, .int .i64 n] [] (Ret (.tup [.agg (getE x n).1.d, .int .i64 (getE x n).2])) := by
  refine dk Tryz.func27 ?_
  have c1 := jvalid_v x hx
  have c2 := jend_v x
  have hh := @lgB_hd x
  simp only [Lg.hd] at hh
  have e0 : getE x n = if lgB x = false then (E0, 26) else if n < x.f ∨ x.end_ < n then (E0, 14) else (x.es.getD (n - x.f).toNat E0, 0) := rfl
  generalize getE x n = r at *
  generalize lgB x = b at *
  cases b
  · (unfold Tryz.f27; refine rn trivial ?_; try with_reducible exact True.intro)
    have F := trivial
    refine rn F ?_
    repeat' (first
      | with_reducible exact True.intro
      | refine vp F (c1) ?_)
    all_goals (first | (rw [e0]; simp (disch := first | assumption | omega | exact rfl | exact nf (by assumption) | exact nt (by assumption) | decide | fail) only [if_pos, if_neg]; first | done | rfl) | (rw [e0]; simp (disch := first | assumption | omega | exact rfl | exact nf (by assumption) | exact nt (by assumption) | decide | (simp_all; done) | fail) only [if_pos, if_neg]; first | done | rfl))
  · replace hh := hh rfl
    have hdef : x.end_ = x.f + x.es.length - 1 := rfl
    generalize x.end_ = en at *
    have hg := fun h : (n - x.f).toNat < x.es.length => fzE_g x.es (n - x.f).toNat h
    (unfold Tryz.f27; refine rn trivial ?_)
    have F := @hg
    refine rn F ?_
    repeat' (first
      | with_reducible exact True.intro
      | (refine sG F ?_ ?_ <;> intro hZ)
      | (refine sB F ?_ ?_ <;> intro hZ)
      | refine vp F (c1) ?_
      | refine vp F (c2 (by omega) (by omega)) ?_)
    all_goals first | (first | (rw [e0]; simp (disch := first | assumption | omega | exact rfl | exact nf (by assumption) | exact nt (by assumption) | decide | fail) only [if_pos, if_neg]; first | done | rfl) | (rw [e0]; simp (disch := first | assumption | omega | exact rfl | exact nf (by assumption) | exact nt (by assumption) | decide | (simp_all; done) | fail) only [if_pos, if_neg]; first | done | rfl)) | skip
def blobC (l : List E) (i : Nat) : Bool := decide ((l.getD i E0).blob.length ≤ 400)
def smallB (x : Lg) : Bool := (List.range x.es.length).all (blobC x.es) && decide (x.es.length ≤ 40)
theorem small6_v (x : Lg) (hx : x.es.length ≤ 9223372036854775807) : VCalls Tryz.prog 10 [.agg x.c] [] (Ret (.bool (smallB x))) := by
  refine dd Tryz.func10 ?_
  have hB : smallB x = ((List.range x.es.length).all (blobC x.es) && decide (x.es.length ≤ 40)) := rfl
  generalize smallB x = b at *
  (unfold Tryz.f10; refine rn trivial ?_)
  refine vloopW (fun s : Okay x.es.length (blobC x.es) => ⟨23, 0, [(3, .int .i64 s.i), (1, .ptr 0 0)], [⟨25, true, x.c⟩]⟩) (fun s => x.es.length - s.i) (Okay.start _ _) (gc [0]) ?_
  intro s
  have hsi := s.hi
  have hg := fun h : s.i < x.es.length => fzE_g x.es s.i h
  have e : blobC x.es s.i = decide ((x.es.getD s.i E0).blob.length ≤ 400) := rfl
  have F := @hg
  refine rn F ?_
  repeat' (first
    | with_reducible exact True.intro
    | (refine sB F ?_ ?_ <;> intro hZ))
  all_goals first
    | (rw [hB, all_not (i := s.i) (by omega) (by rw [e]; exact decide_eq_false (by omega)), Bool.false_and])
    | exact ⟨s.next (by omega) (by rw [e]; exact decide_eq_true (by omega)), s.dec (by omega), (gc [0])⟩
    | (rw [hB, s.all (by omega), Bool.true_and]; congr 3; apply decide_eq_decide.2; omega)
    | skip
def encLg : Enc Lg := ⟨3, fun x => [.lit (.int .i64 x.f), .sl (fz encE x.es), .lit (.int .i64 x.d)], by decide, fun _ => rfl⟩
theorem elLg (l : List Lg) (i : Nat) (h : i < l.length) : ((cells encLg l).drop (i * 3)).take 3 = (l.getD i Lg0).c := by rw [getD_eq l i h]; exact cells_at encLg l i h
theorem cutS_len (x : Lg) (n : Int) (h : x.es.length ≤ 4096) : (cutS x n).1.es.length ≤ 4096 := by
  unfold cutS
  split
  · exact Nat.zero_le _
  split
  · exact Nat.zero_le _
  split
  · exact Nat.zero_le _
  · dsimp only; rw [List.length_drop]; omega
structure JS (n : Nat) where
  i : Nat
  hi : i ≤ n
  c : C
theorem jexact_v (l : List UInt8) (hl : l.length ≤ 9223372036854775807) (raw : Lg) (hr : raw.es.length ≤ 9223372036854775807) (e : E) (n : Int) : VCalls Tryz.prog 3 [.pv (.sl (fz encU l)), .agg raw.c, .agg e.d, .int .i64 n] [] (Ret (.bool true)) := by
  refine dd Tryz.func3 ?_
  have c0 := awake6_v
  have c1 := small6_v raw hr
  have hsm : smallB raw = true → raw.es.length ≤ 40 := fun h => by unfold smallB at h; simp at h; exact h.2
  generalize smallB raw = b at *
  (unfold Tryz.f3; refine rn trivial ?_)
  cases b
  · skip
    have F := trivial
    refine rn F ?_
    repeat' (first
      | with_reducible exact True.intro
      | refine vp F (c0) ?_
      | refine vp F (c1) ?_)
    all_goals rfl
  replace hsm := hsm rfl
  by_cases h4 : 400 < (e.blob.length : Int)
  · skip
    have F := @h4
    refine rn F ?_
    repeat' (first
      | with_reducible exact True.intro
      | refine vp F (c0) ?_
      | refine vp F (c1) ?_)
    all_goals rfl
  have F := @h4
  refine rn F ?_
  repeat' (first
    | with_reducible exact True.intro
    | refine vp F (c0) ?_
    | refine vp F (c1) ?_)
  refine vc_draw (most := 200) (by omega) (by omega) hl fun c => ?_
  refine rn trivial ?_
  refine vc_cx (k := 2) (c := c) (dlog_v c 16 (by omega)) rfl rfl ?_
  rintro _ c1 ⟨x, rfl, hx⟩
  have hxl := hx.len
  have F := trivial
  refine rn F ?_
  repeat' (first
    | with_reducible exact True.intro
    | (refine vspineT (id := 5) [[], [], [], [], [2, 3], [0, 1, 2, 3, 4], [0, 1, 2, 3, 4, 5], []] [0, 1, 2, 3, 7] [⟨[], [], 4, [0, 1, 7], []⟩, ⟨[], [], 5, [7], [6]⟩] (by kernel_rfl) (by kernel_rfl) (by kernel_rfl) ?_; refine rn F ?_))
  refine vc_cx (k := 2) (oddlog_v c1 x hxl hx.lsn) rfl rfl ?_
  rintro _ c2 ⟨y, rfl, hyl⟩
  have F := trivial
  refine rn F ?_
  obtain ⟨ls, hL, h7, hle⟩ : ∃ ls : List Lg, ([.int .i64 raw.f, .pv (.sl (fz encE raw.es)), .int .i64 raw.d, .int .i64 x.f, .pv (.sl (fz encE x.es)), .int .i64 x.d, .int .i64 y.f, .pv (.sl (fz encE y.es)), .int .i64 y.d] : List DV) = cells encLg ls ∧ ls.length = 3 ∧ ∀ t ∈ ls, t.es.length ≤ 4096 :=
    ⟨[raw, x, y], rfl, rfl, by
      simp only [List.forall_mem_cons]
      exact ⟨by omega, by omega, by omega, fun _ h => by cases h⟩⟩
  rw [hL]
  have hcl : (cells encLg ls).length = 9 := by rw [cells_len, h7]; rfl
  refine vloopW (fun s : JS 3 => ⟨196, 0, [(62, .int .i64 s.i), (61, .int .i64 3), (60, .own 2 3 0 3), (9, .ptr 1 0), (6, .ptr 0 0), (3, .int .i64 n)], [⟨31, true, e.d⟩, cb s.c, ⟨25, true, cells encLg ls⟩]⟩) (fun s => 3 - s.i) ⟨0, Nat.zero_le _, c2⟩ (gc [1, 2, 4]) ?_
  rintro ⟨i, hi, c3⟩
  dsimp only
  by_cases hin : i < 3
  rotate_left
  · have q1 := jnew_v
    have q2 := rlnew_v
    have q3 := rsameL_v Lg1 Lg1 (by decide)
    rw [lgS_self] at q3
    have F := trivial
    refine rn F ?_
    repeat' (first
      | with_reducible exact True.intro
      | refine vp F (q1) ?_
      | refine vp F (q2) ?_
      | refine vp F (q3) ?_)
  have hb : i * 3 + 3 ≤ 9 := by omega
  have hg := elLg ls i (by omega)
  have hzl : (ls.getD i Lg0).es.length ≤ 4096 := by rw [getD_eq ls i (by omega)]; exact hle _ (List.getElem_mem _)
  generalize ls.getD i Lg0 = z at *
  have r1 := jvalid_v z (by omega)
  have r2 := rlvalid_v z (by omega)
  have r3 := jlast_v z (by omega)
  have r4 := rlLast_v z (by omega)
  have F := (And.intro @hcl (And.intro @hb @hg))
  refine rn F ?_
  repeat' (first
    | with_reducible exact True.intro
    | refine vp F (r1) ?_
    | refine vp F (r2) ?_
    | refine vp F (r3) ?_
    | refine vp F (r4) ?_
    | (refine vspineT (id := 8) [[], [0], [], [0, 1, 2], [0, 1, 2, 3], [0, 1, 2, 3, 4], [0, 1, 2, 3, 4, 5], [0, 1, 2, 3, 4, 5, 6], [0, 1, 2, 3, 4, 5], [0, 1, 2, 3, 4, 5, 6, 7, 8], [0, 1, 2, 3, 4, 5, 6, 7, 8, 9], [0, 1, 2, 3, 4, 5, 6, 7, 8, 9, 10]] [0, 2] [⟨[], [], 1, [2], []⟩, ⟨[], [], 3, [], [4, 5, 6, 8]⟩, ⟨[], [], 7, [8], []⟩, ⟨[], [], 9, [], [10, 11]⟩] (by kernel_rfl) (by kernel_rfl) (by kernel_rfl) ?_; refine rn F ?_)
    | (refine vspineT (id := 10) [[], [], [1], [0, 1, 2], [0, 1, 2, 3], []] [0, 1, 5] [⟨[], [], 2, [0, 5], []⟩, ⟨[], [], 3, [5], [4]⟩] (by kernel_rfl) (by kernel_rfl) (by kernel_rfl) ?_; refine rn F ?_))
  refine vc_cx (k := 1) (entry_v c3) rfl rfl ?_
  rintro _ c4 ⟨w, rfl⟩
  have F := trivial
  refine rn F ?_
  have hL2 : e.d ++ w.d = cells encE [e, w] := rfl
  simp only [E.d, List.cons_append, List.nil_append] at hL2
  rw [hL2]
  obtain ⟨le, hle2⟩ : ∃ le, le = [e, w] := ⟨_, rfl⟩
  have h2 : le.length = 2 := by rw [hle2]; rfl
  rw [← hle2]
  have hcl2 : (cells encE le).length = 26 := by rw [cells_len, h2]; rfl
  refine vloopW (fun s : To 2 => ⟨196, 0, [(83, .int .i64 s.i), (82, .int .i64 2), (81, .own 4 13 0 2), (12, .ptr 3 0), (62, .int .i64 i), (61, .int .i64 3), (60, .own 2 3 0 3), (9, .ptr 1 0), (6, .ptr 0 0), (3, .int .i64 n)], [⟨31, true, e.d⟩, cb c4, ⟨25, true, cells encLg ls⟩, ⟨25, true, z.c⟩, ⟨31, true, cells encE le⟩]⟩) (fun s => 2 - s.i) ⟨0, Nat.zero_le _⟩ (gc [0, 1, 2, 3, 4]) ?_
  rintro ⟨j, hj⟩
  dsimp only
  by_cases hjn : j < 2
  · have hb2 : j * 13 + 13 ≤ 26 := by omega
    have hg2 := elE le j (by omega)
    generalize le.getD j E0 = y2 at *
    have a1 := append_v z (by omega) y2
    have a2 := rappend_v z (by omega) y2
    have hal := appS_len z y2
    generalize appS z y2 = a at *
    have a3 := rsameL_v a.1 a.1 (by omega)
    rw [lgS_self] at a3
    have F := (And.intro @hcl2 (And.intro @hb2 @hg2))
    refine rn F ?_
    repeat' (first
      | with_reducible exact True.intro
      | refine vp F (a1) ?_
      | refine vp F (a2) ?_
      | refine vp F (a3) ?_)
    exact ⟨⟨j + 1, by omega⟩, by dsimp only; omega, (gc [0, 1, 2, 3, 4])⟩
  have F := trivial
  refine rn F ?_
  repeat' (first
    | with_reducible exact True.intro
    | (refine vspineT (id := 18) [[], [], [1], [], [3], [1, 2, 3, 4], [1, 2, 3, 4, 5], [0, 1, 2, 3, 4, 5, 6], [0, 1, 2, 3, 4, 5, 6, 7], []] [0, 1, 2, 3, 9] [⟨[], [], 4, [0, 1, 2, 9], [5, 6]⟩, ⟨[], [], 7, [9], [8]⟩] (by kernel_rfl) (by kernel_rfl) (by kernel_rfl) ?_; refine rn F ?_))
  refine vc_cx (k := 1) (next_v c4 20 (by omega) (by omega)) rfl rfl ?_
  rintro _ c5 ⟨w2, rfl, hw2⟩
  have F := trivial
  refine rn F ?_
  generalize IntKind.i64.wrap (IntKind.i64.wrap (z.f + (w2 : Int)) - 2) = m at *
  refine vloopW (fun s : To 2 => ⟨196, 0, [(125, .int .i64 s.i), (124, .int .i64 2), (123, .own 4 1 0 2), (12, .ptr 3 0), (62, .int .i64 i), (61, .int .i64 3), (60, .own 2 3 0 3), (9, .ptr 1 0), (6, .ptr 0 0), (3, .int .i64 n)], [⟨31, true, e.d⟩, cb c5, ⟨25, true, cells encLg ls⟩, ⟨25, true, z.c⟩, ⟨3, true, [.int .i64 n, .int .i64 m]⟩]⟩) (fun s => 2 - s.i) ⟨0, Nat.zero_le _⟩ (gc [0, 1, 2, 3, 5]) ?_
  rintro ⟨k, hk⟩
  dsimp only
  by_cases hkn : k < 2
  · obtain ⟨t, ht⟩ : ∃ t : Int, ([.int .i64 n, .int .i64 m] : List DV)[k]? = some (.int .i64 t) := by
      rcases (show k = 0 ∨ k = 1 by omega) with rfl | rfl
      · exact ⟨_, rfl⟩
      · exact ⟨_, rfl⟩
    have a1 := force_v z (by omega) t
    have a2 := rforce_v z (by omega) t
    have hal := forceS_len z t (by omega)
    generalize forceS z t = a at *
    have a3 := rsameL_v a.1 a.1 (by omega)
    rw [lgS_self] at a3
    have b1 := cut_v z (by omega) t
    have b2 := rcut_v z (by omega) t
    have hbl := cutS_len z t (by omega)
    generalize cutS z t = b at *
    have b3 := rsameL_v b.1 b.1 (by omega)
    rw [lgS_self] at b3
    have g1 := jget_v z (by omega) t
    have g2 := rget_e z (by omega) t
    generalize getE z t = g at *
    have F := @ht
    refine rn F ?_
    repeat' (first
      | with_reducible exact True.intro
      | refine vp F (a1) ?_
      | refine vp F (a2) ?_
      | refine vp F (a3) ?_
      | refine vp F (b1) ?_
      | refine vp F (b2) ?_
      | refine vp F (b3) ?_
      | refine vp F (g1) ?_
      | refine vp F (g2) ?_)
    exact ⟨⟨k + 1, by omega⟩, by dsimp only; omega, (gc [0, 1, 2, 3, 4])⟩
  have F := trivial
  refine rn F ?_
  exact ⟨⟨i + 1, by omega, c5⟩, by dsimp only; omega, (gc [0, 1, 2])⟩
end Go.Proofs.YtipnkkooklhfgaaGreat

namespace Go.Proofs.YtipnkkooklhfgaaGreat
open Go.V Go Go.ChangeShapes Go.WideShapes
def eK : List PS := [.int .i64, .int .i64, .int .i64, .int .i64, .int .i64, .int .i64, .int .i64, .int .i64, .bool, .str, .bool, .str, .str]
theorem row_E (c : List PV) (h : OkSs eK c) : ∃ e : E, c = encE.enc e := by
  obtain ⟨g1, g2⟩ := h
  obtain ⟨d0, e0, n0, rfl, _⟩ := g2 0 _ rfl
  obtain ⟨d1, e1, n1, rfl, _⟩ := g2 1 _ rfl
  obtain ⟨d2, e2, n2, rfl, _⟩ := g2 2 _ rfl
  obtain ⟨d3, e3, n3, rfl, _⟩ := g2 3 _ rfl
  obtain ⟨d4, e4, n4, rfl, _⟩ := g2 4 _ rfl
  obtain ⟨d5, e5, n5, rfl, _⟩ := g2 5 _ rfl
  obtain ⟨d6, e6, n6, rfl, _⟩ := g2 6 _ rfl
  obtain ⟨d7, e7, n7, rfl, _⟩ := g2 7 _ rfl
  obtain ⟨d8, e8, n8, rfl⟩ := g2 8 _ rfl
  obtain ⟨d9, e9, n9, rfl, _⟩ := g2 9 _ rfl
  obtain ⟨d10, e10, n10, rfl⟩ := g2 10 _ rfl
  obtain ⟨d11, e11, n11, rfl, _⟩ := g2 11 _ rfl
  obtain ⟨d12, e12, n12, rfl, _⟩ := g2 12 _ rfl
  match c, g1 with
  | [a0, a1, a2, a3, a4, a5, a6, a7, a8, a9, a10, a11, a12], _ =>
    simp at e0 e1 e2 e3 e4 e5 e6 e7 e8 e9 e10 e11 e12
    subst e0 e1 e2 e3 e4 e5 e6 e7 e8 e9 e10 e11 e12
    exact ⟨⟨n0, n1, n2, n3, n4, n5, ⟨n6, n7, ⟨n8, n9⟩, ⟨n10, n11⟩⟩, n12⟩, rfl⟩
theorem rows_E (xs : List (List PV)) (h : ∀ c ∈ xs, OkSs eK c) : ∃ l : List E, xs = fz encE l ∧ l.length = xs.length := by
  induction xs with
  | nil => exact ⟨[], rfl, rfl⟩
  | cons c r ih =>
    obtain ⟨l, h1, h2⟩ := ih fun c hc => h c (List.mem_cons_of_mem _ hc)
    obtain ⟨e, rfl⟩ := row_E c (h c (List.mem_cons_self))
    exact ⟨e :: l, by rw [h1]; rfl, by simp [h2]⟩
theorem arg_log {H : Type} {enc : TypeId × Value → H} {r0 : Reach} {b0 : Nat} {W : World} {v : Value} {d : DataW H} {ps : List MemPlace} (hval : Value.okWide Tryz.prog W r0 b0 25 v) (h : DataW.Trod enc Tryz.prog W 0 (fun _ => true) true 25 v d ps) :
    ∃ t : Lg, RelD W β0 [] (.agg t.c) v ∧ t.es.length ≤ maxLen := by
  obtain ⟨l, h1, h2, h3⟩ := arg_struct (n := 8) (r := [.pl (.int .i64), .rows eK, .pl (.int .i64)]) Tryz.underlying25 (by kernel_rfl) hval h
  obtain ⟨d0, e0, n0, rfl, _⟩ := h3 0 _ rfl
  obtain ⟨d1, e1, x1, rfl, l1, r1⟩ := h3 1 _ rfl
  obtain ⟨d2, e2, n2, rfl, _⟩ := h3 2 _ rfl
  obtain ⟨a, rfl, ha⟩ := rows_E x1 r1
  match l, h2 with
  | [a0, a1, a2], _ =>
    simp at e0 e1 e2
    subst e0 e1 e2
    exact ⟨⟨n0, a, n2⟩, h1, by dsimp only; omega⟩
theorem arg_entry {H : Type} {enc : TypeId × Value → H} {r0 : Reach} {b0 : Nat} {W : World} {v : Value} {d : DataW H} {ps : List MemPlace} (hval : Value.okWide Tryz.prog W r0 b0 31 v) (h : DataW.Trod enc Tryz.prog W 0 (fun _ => true) true 31 v d ps) :
    ∃ e : E, RelD W β0 [] (.agg e.d) v ∧ True := by
  obtain ⟨l, h1, h2, h3⟩ := arg_struct (n := 8) (r := eK.map .pl) Tryz.underlying31 (by kernel_rfl) hval h
  obtain ⟨e, rfl⟩ := row_E l ⟨by rw [h2]; rfl, fun i s hs => h3 i (.pl s) (by rw [List.getElem?_map, hs]; rfl)⟩
  exact ⟨e, h1, trivial⟩
end Go.Proofs.YtipnkkooklhfgaaGreat
