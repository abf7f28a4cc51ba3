/-
  Contracts of functions and plain laws. No condition.
-/
import Derived.Test.YtfabboefambbjaaGreatP2
import Derived.Test.YtfabboefambbjaaGreatP1
import Derived.Test.YtfabboefambbjaaGreatV3
import Derived.Test.YtfabboefambbjaaGreatV2
set_option linter.unusedSimpArgs false
set_option linter.unusedVariables false
set_option maxRecDepth 100000
set_option maxHeartbeats 8000000
namespace Go.Proofs.YtfabboefambbjaaGreat
open Go.V Go
open Tryz (prog)
@[go_sem] def stD (s : List UInt8) : DV := .pv (.str s)
theorem rput_w (s : List UInt8) (hs : s.length ≤ 1000000000) (n : Int) (k : Nat) (h1 : 1 ≤ k) (h8 : k ≤ 8) : VCalls prog 53 [.pv (.str s), .int .i64 n, .int .i64 k] [] (RetS stD fun t => t.length = s.length + k) :=
  (rput_v s hs n k h1 h8).toS (putL s n k) rfl (putL_len s n k)
theorem rput1 (s : List UInt8) (hs : s.length ≤ 1000000000) (n : Int) : VCalls prog 53 [.pv (.str s), .int .i64 n, .int .i64 1] [] (RetS stD fun t => t.length = s.length + 1) := rput_w s hs n 1 (by omega) (by omega)
theorem rput2 (s : List UInt8) (hs : s.length ≤ 1000000000) (n : Int) : VCalls prog 53 [.pv (.str s), .int .i64 n, .int .i64 2] [] (RetS stD fun t => t.length = s.length + 2) := rput_w s hs n 2 (by omega) (by omega)
theorem rput4 (s : List UInt8) (hs : s.length ≤ 1000000000) (n : Int) : VCalls prog 53 [.pv (.str s), .int .i64 n, .int .i64 4] [] (RetS stD fun t => t.length = s.length + 4) := rput_w s hs n 4 (by omega) (by omega)
theorem rput8 (s : List UInt8) (hs : s.length ≤ 1000000000) (n : Int) : VCalls prog 53 [.pv (.str s), .int .i64 n, .int .i64 8] [] (RetS stD fun t => t.length = s.length + 8) := rput_w s hs n 8 (by omega) (by omega)
theorem rnumbers_w (s : List UInt8) (hs : s.length ≤ 800000000) (l : List Int) (hl : l.length ≤ 100000) : VCalls prog 211 [.pv (.str s), .pv (.sl (fz encI l))] [] (RetS stD fun t => t.length ≤ s.length + 800000) := by
  refine dd Tryz.func211 ?_
  (unfold Tryz.f211; refine rn trivial ?_)
  refine vloopW (fun r : {r : Nat × List UInt8 // r.1 ≤ l.length ∧ r.2.length = s.length + 8 * r.1} => ⟨19, 0, [(5, .int .i64 r.1.1), (1, .pv (.sl (fz encI l))), (0, .pv (.str r.1.2))], []⟩) (fun r => l.length - r.1.1) ⟨(0, s), by simp⟩ (gc []) ?_
  rintro ⟨⟨i, t⟩, hi, ht⟩
  dsimp only at hi ht ⊢
  have hg := fun h : i < l.length => fzI_get l i h
  have c1 := rput8 t (by omega)
  have F := @hg
  refine rn F ?_
  repeat' (first
    | with_reducible exact ⟨⟩
    | (refine sB F ?_ ?_ <;> intro hZ)
    | (refine vc_S (c1 _) rfl ?_; rintro u hu; refine rn F ?_))
  all_goals first
    | exact ⟨⟨(i + 1, u), by dsimp only; omega, by dsimp only; omega⟩, by dsimp only; omega, (gc [])⟩
    | exact ⟨rfl, rfl, t, rfl, by omega⟩
    | skip
theorem rtenc_w (l : List Tx) (hl : smN 65 l) : VCalls prog 166 [.pv (.sl (fz encT l))] [] (RetS siD fun a => a.1.length ≤ 200000000) := by
  refine dd Tryz.func166 ?_
  have c1 := rtvalid_v l (hl.smL (by omega))
  have h1 := hl.1
  have c2 := rput2 [] (by simp)
  generalize tblB l = b at *
  (unfold Tryz.f166; refine rn trivial ?_)
  refine rn F ?_
  repeat' (first
    | with_reducible exact ⟨⟩
    | (refine sB F ?_ ?_ <;> intro hZ)
    | refine vp F (c1) ?_
    | (refine vc_S (c2 _) rfl ?_; rintro u hu; refine rn F ?_))
  all_goals first
    | exact ⟨rfl, rfl, ([], 15), rfl, by simp⟩
    | skip
  refine vloopW (fun r : {r : Nat × List UInt8 // r.1 ≤ l.length ∧ r.2.length ≤ 2 + 1600024 * r.1} => ⟨56, 0, [(5, .int .i64 r.1.1), (4, .pv (.str r.1.2)), (0, .pv (.sl (fz encT l)))], []⟩) (fun r => l.length - r.1.1) ⟨(0, u), by simp at hu ⊢; omega⟩ (gc []) ?_
  rintro ⟨⟨i, t⟩, hi, ht⟩
  dsimp only at hi ht ⊢
  have hg := fun h : i < l.length => fzT_g l i h
  have hss : i < l.length → (l.getD i Tx0).l.length ≤ 100000 ∧ (l.getD i Tx0).s.length ≤ 100000 := fun h => by rw [getD_eq _ _ h]; exact hl.2 _ (List.getElem_mem h)
  generalize l.getD i Tx0 = x at *
  by_cases hil : i < l.length
  rotate_left
  · skip
    have F := @hg
    refine rn F ?_
    exact ⟨rfl, rfl, (t, 0), rfl, by dsimp only; omega⟩
  obtain ⟨s1, s2⟩ := hss hil
  have F := @hg
  refine rn F ?_
  repeat' (first
    | with_reducible exact ⟨⟩
    | (refine vc_S (rput4 t (by omega) x.id) rfl ?_; rintro u1 hu1; refine rn F ?_)
    | (refine vc_S (rput1 u1 (by omega) x.st) rfl ?_; rintro u2 hu2; refine rn F ?_)
    | (refine vc_S (rput8 u2 (by omega) x.n) rfl ?_; rintro u3 hu3; refine rn F ?_)
    | (refine vc_S (rput8 u3 (by omega) x.b) rfl ?_; rintro u4 hu4; refine rn F ?_)
    | (refine vc_S (rput2 u4 (by omega) _) rfl ?_; rintro u5 hu5; refine rn F ?_)
    | (refine vc_S (rnumbers_w u5 (by omega) x.l s1) rfl ?_; rintro u6 hu6; refine rn F ?_)
    | (refine vc_S (rput1 u6 (by omega) x.s.length) rfl ?_; rintro u7 hu7; refine rn F ?_)
    | (refine vc_S (rnumbers_w u7 (by omega) x.s s2) rfl ?_; rintro u8 hu8; refine rn F ?_)
    | (refine vspine (id := 12) [0, 1, 2, 3, 5, 6] [⟨[], [], 4, [1, 2, 5, 6], []⟩, ⟨[], [], 7, [0, 1, 2, 3, 5], []⟩, ⟨[], [], 8, [], []⟩] (by kernel_rfl) (by kernel_rfl) ?_; refine rn F ?_)
    | (refine vspine (id := 13) [0, 1, 2, 3, 5, 6] [⟨[], [], 4, [1, 2, 5, 6], []⟩, ⟨[], [], 7, [0, 1, 2, 3, 5], []⟩, ⟨[], [], 8, [], []⟩] (by kernel_rfl) (by kernel_rfl) ?_; refine rn F ?_))
  all_goals first
    | exact ⟨⟨(i + 1, u8), hil, Nat.le_trans (show u8.length ≤ (2 + 1600024 * i) + 1600024 by omega) (by rw [Nat.mul_succ]; exact Nat.le_of_eq (Nat.add_assoc _ _ _))⟩, by dsimp only; omega, (gc [])⟩
    | skip
theorem rixenc_w (l : List Rw) (hl : l.length ≤ 64) : VCalls prog 167 [.agg [.pv (.sl (fz encR l))]] [] (RetS siD fun a => a.1.length ≤ 2000) := by
  refine dd Tryz.func167 ?_
  have c1 := rixvalid_v l (by omega)
  have c2 := rput2 [] (by simp)
  generalize ixB l = b at *
  (unfold Tryz.f167; refine rn trivial ?_)
  refine rn F ?_
  repeat' (first
    | with_reducible exact ⟨⟩
    | (refine sB F ?_ ?_ <;> intro hZ)
    | refine vp F (c1) ?_
    | (refine vc_S (c2 _) rfl ?_; rintro u hu; refine rn F ?_))
  all_goals first
    | exact ⟨rfl, rfl, ([], 28), rfl, by simp⟩
    | skip
  refine vloopW (fun r : {r : Nat × List UInt8 // r.1 ≤ l.length ∧ r.2.length ≤ 2 + 24 * r.1} => ⟨45, 0, [(5, .int .i64 r.1.1), (4, .pv (.str r.1.2)), (1, .ptr 0 0)], [⟨93, true, [.pv (.sl (fz encR l))]⟩]⟩) (fun r => l.length - r.1.1) ⟨(0, u), by simp at hu ⊢; omega⟩ (gc [0]) ?_
  rintro ⟨⟨i, t⟩, hi, ht⟩
  dsimp only at hi ht ⊢
  have hg := fun h : i < l.length => fzR_at l i h
  generalize l.getD i Rw0 = x at *
  have F := @hg
  refine rn F ?_
  repeat' (first
    | with_reducible exact ⟨⟩
    | (refine sB F ?_ ?_ <;> intro hZ)
    | (refine vc_S (rput8 t (by omega) x.lsn) rfl ?_; rintro u1 hu1; refine rn F ?_)
    | (refine vc_S (rput8 u1 (by omega) x.im) rfl ?_; rintro u2 hu2; refine rn F ?_)
    | (refine vc_S (rput8 u2 (by omega) x.at_) rfl ?_; rintro u3 hu3; refine rn F ?_))
  all_goals first
    | exact ⟨⟨(i + 1, u3), by dsimp only; omega, by dsimp only; omega⟩, by dsimp only; omega, (gc [0])⟩
    | exact ⟨rfl, rfl, (t, 0), rfl, by dsimp only; omega⟩
    | skip
section
attribute [local go_sem] frzHeap
structure Cp where
  pg : Int
  nx : Int
  tx : List Tx
  dl : List Dt
  ix : List Rw
@[go_sem] def Cp.d (c : Cp) : List DV := [.int .i64 c.pg, .int .i64 c.nx, .pv (.sl (fz encT c.tx)), .pv (.sl (fz encY c.dl)), .pv (.sl (fz encR c.ix))]
def Cp0 : Cp := ⟨0, 0, [], [], []⟩
def Cp.sm (c : Cp) : Prop := smN 65 c.tx ∧ c.dl.length ≤ 10000 ∧ c.ix.length ≤ 64
theorem Cp0_sm : Cp0.sm := ⟨smN_nil _, by decide, by decide⟩
@[go_sem] def cpD2 (a : Cp × Int) : DV := .tup [.agg a.1.d, .int .i64 a.2]
def Zc : List DV := [.int .i64 0, .int .i64 0, .pv (.slc []), .pv (.slc []), .pv (.slc [])]
theorem rcpof_w (k : Kn) (h : k.sm) : VCalls prog 129 [.agg k.d] [] (RetS cpD2 fun a => a.1.sm) := by
  refine dk Tryz.func129 ?_
  have c1 := rkvalid_w k h
  obtain ⟨h1, h2, h3, h4, h5, h6⟩ := h
  have c2 := fun n => rlacks_w k (by omega) n
  have c3 := rpdirty_v k.pl (by omega)
  (unfold Tryz.f129; refine rn trivial ?_)
  refine vc_S c1 rfl ?_
  rintro b hb
  cases b
  · skip
    refine rn F ?_
    exact ⟨rfl, rfl, (Cp0, 15), rfl, Cp0_sm⟩
  have hv := (hb rfl).1
  refine rn F ?_
  refine VLoop.nilOwnC 2 3 209 3 rfl rfl ?_
  refine rn trivial ?_
  refine vloopW (fun s : {s : Nat × List Dt // s.1 ≤ 64 ∧ s.2.length ≤ 65 * s.1} => ⟨62, 0, [(5, .int .i64 s.1.1), (4, .ptr 2 0), (2, .ptr 1 0), (1, .ptr 0 0)], [⟨96, true, k.d⟩, ⟨228, true, Zc⟩, ⟨228, true, [.int .i64 k.pg, .int .i64 k.nx, .pv (.sl (fz encT k.tx)), .own 3 3 0 s.1.2.length, .pv (.sl (fz encR k.ix))]⟩, ⟨209, true, cells encY s.1.2⟩]⟩) (fun s => 64 - s.1.1) ⟨(0, []), by simp⟩ (gc [0, 1, 2, 3]) ?_
  rintro ⟨⟨i, out⟩, hi, ho⟩
  dsimp only at hi ho ⊢
  unfold Zc
  have hb1 : (out.length + 1) * 24 ≤ 140737488355328 := by omega
  have F := @hb1
  refine rn F ?_
  repeat' (first
    | with_reducible exact ⟨⟩
    | (refine sB F ?_ ?_ <;> intro hZ)
    | (refine vc_S (c2 _) rfl ?_; rintro ⟨d, b2⟩ -; refine rn F ?_)
    | (refine vc_S (c3) rfl ?_; rintro l hl; refine rn F ?_))
  rotate_left 2
  · exact ⟨rfl, rfl, (⟨k.pg, k.nx, k.tx, out, k.ix⟩, 0), rfl, h4, by dsimp only; omega, h5⟩
  all_goals
    first
      | refine vloopW (fun s : {s : Nat × List Dt // s.1 ≤ l.length ∧ s.2.length ≤ 65 * i + 1 + s.1} => ⟨62, 0, [(46, .int .i64 s.1.1), (45, .int .i64 l.length), (44, .pv (.sl (fz encY l))), (5, .int .i64 i), (4, .ptr 2 0), (2, .ptr 1 0), (1, .ptr 0 0)], [⟨96, true, k.d⟩, ⟨228, true, Zc⟩, ⟨228, true, [.int .i64 k.pg, .int .i64 k.nx, .pv (.sl (fz encT k.tx)), .own 3 3 0 s.1.2.length, .pv (.sl (fz encR k.ix))]⟩, ⟨209, true, cells encY s.1.2⟩]⟩) (fun s => l.length - s.1.1) ⟨(0, out ++ [⟨d.pg, d.rc, d.last⟩]), by dsimp only; rw [List.length_append]; exact ⟨Nat.zero_le _, by simp; omega⟩⟩ (by dsimp only; rw [List.length_append]; exact (gc [0, 1, 2, 6])) ?_
      | refine vloopW (fun s : {s : Nat × List Dt // s.1 ≤ l.length ∧ s.2.length ≤ 65 * i + 1 + s.1} => ⟨62, 0, [(46, .int .i64 s.1.1), (45, .int .i64 l.length), (44, .pv (.sl (fz encY l))), (5, .int .i64 i), (4, .ptr 2 0), (2, .ptr 1 0), (1, .ptr 0 0)], [⟨96, true, k.d⟩, ⟨228, true, Zc⟩, ⟨228, true, [.int .i64 k.pg, .int .i64 k.nx, .pv (.sl (fz encT k.tx)), .own 3 3 0 s.1.2.length, .pv (.sl (fz encR k.ix))]⟩, ⟨209, true, cells encY s.1.2⟩]⟩) (fun s => l.length - s.1.1) ⟨(0, out), by dsimp only; exact ⟨Nat.zero_le _, by omega⟩⟩ (gc [0, 1, 2, 3]) ?_
    rintro ⟨⟨j, o2⟩, hj, ho2⟩
    dsimp only at hj ho2 ⊢
    unfold Zc
    have hy := fun h : j < l.length => fzY_at l j h
    have hb2 : (o2.length + 1) * 24 ≤ 140737488355328 := by omega
    have F := (And.intro @hy @hb2)
    refine rn F ?_
    repeat' (first
      | with_reducible exact ⟨⟩
      | (refine sB F ?_ ?_ <;> intro hZ))
  all_goals first
    | exact ⟨⟨(j + 1, o2), by dsimp only; omega, by dsimp only; omega⟩, by dsimp only; omega, (gc [0, 1, 2, 3])⟩
    | exact ⟨⟨(j + 1, o2 ++ [⟨(l.getD j Dt0).pg, (l.getD j Dt0).rc, (l.getD j Dt0).last⟩]), by dsimp only; omega, by simp; omega⟩, by dsimp only; omega, by dsimp only; rw [List.length_append]; exact (gc [0, 1, 2, 6])⟩
    | exact ⟨⟨(i + 1, o2), by dsimp only; omega, by dsimp only; omega⟩, by dsimp only; omega, (gc [0, 1, 2, 3])⟩
    | skip
  all_goals skip
end
theorem rcpvalid_w (c : Cp) (h : c.sm) : VCalls prog 165 [.agg c.d] [] (RetS boD fun _ => True) := by
  refine dd Tryz.func165 ?_
  obtain ⟨h1, h2, h3⟩ := h
  have h10 := h1.1
  have c1 := rtvalid_v c.tx (h1.smL (by omega))
  have c2 := fun n => rvdirty_w c.dl (by omega) n
  have c3 := rixvalid_v c.ix (by omega)
  generalize tblB c.tx = b1 at *
  generalize ixB c.ix = b2 at *
  (unfold Tryz.f165; refine rn trivial ?_)
  refine rn F ?_
  repeat' (first
    | with_reducible exact ⟨⟩
    | (refine sG F ?_ ?_ <;> intro hZ)
    | (refine sB F ?_ ?_ <;> intro hZ)
    | refine vp F (c1) ?_
    | (refine vc_S (c2 _) rfl ?_; rintro b3 -; refine rn F ?_)
    | refine vp F (c3) ?_)
  all_goals first
    | exact ⟨rfl, rfl, false, rfl, trivial⟩
    | skip
  all_goals
    refine vloopW (fun s : To c.tx.length => ⟨67, 0, [(3, .int .i64 s.i), (1, .ptr 0 0)], [⟨228, true, c.d⟩]⟩) (fun s => c.tx.length - s.i) ⟨0, Nat.zero_le _⟩ (gc [0]) ?_
    rintro ⟨i, hi⟩
    dsimp only
    have hg := fun h : i < c.tx.length => fzT_g c.tx i h
    have F := @hg
    refine rn F ?_
    repeat' (first
      | with_reducible exact ⟨⟩
      | (refine sB F ?_ ?_ <;> intro hZ)
      | (refine vspine (id := 6) [0, 1, 2, 3, 4, 5, 6, 7, 8] [] (by kernel_rfl) (by kernel_rfl) ?_; refine rn F ?_))
  all_goals first
    | exact ⟨rfl, rfl, false, rfl, trivial⟩
    | exact ⟨rfl, rfl, true, rfl, trivial⟩
    | exact ⟨⟨i + 1, by omega⟩, by dsimp only; omega, (gc [0])⟩
    | skip
theorem rcpenc_w (c : Cp) (h : c.sm) : VCalls prog 130 [.agg c.d] [] (RetS siD fun a => a.1.length ≤ 300000000) := by
  refine dd Tryz.func130 ?_
  have c1 := rcpvalid_w c h
  obtain ⟨h1, h2, h3⟩ := h
  have c2 := rtenc_w c.tx h1
  have c3 := rixenc_w c.ix h3
  have c4 := rput2 [] (by simp)
  (unfold Tryz.f130; refine rn trivial ?_)
  refine rn F ?_
  repeat' (first
    | with_reducible exact ⟨⟩
    | (refine sB F ?_ ?_ <;> intro hZ)
    | (refine vc_S (c1) rfl ?_; rintro b -; refine rn F ?_)
    | (refine vc_S (c2) rfl ?_; rintro ⟨t, e⟩ ht; refine rn F ?_)
    | (refine vc_S (c4 _) rfl ?_; rintro u1 hu1; refine rn F ?_)
    | (refine vc_S (rput4 u1 (by simp at hu1; omega) c.nx) rfl ?_; rintro u2 hu2; refine rn F ?_)
    | (refine vc_S (rput4 u2 (by simp at hu1; omega) t.length) rfl ?_; rintro u3 hu3; refine rn F ?_))
  all_goals first
    | exact ⟨rfl, rfl, ([], 24), rfl, by simp⟩
    | skip
  dsimp only at ht
  simp only [List.length_nil] at hu1
  have hadd := str_add (a := u3) (b := t) (by omega)
  have hw : (u3 ++ t).length = u3.length + t.length := List.length_append
  have F := @hadd
  refine rn F ?_
  repeat' (first
    | with_reducible exact ⟨⟩
    | (refine vc_S (rput1 (u3 ++ t) (by rw [hw]; omega) c.dl.length) rfl ?_; rintro u4 hu4; refine rn F ?_))
  rw [hw] at hu4
  refine vloopW (fun r : {r : Nat × List UInt8 // r.1 ≤ c.dl.length ∧ r.2.length = u4.length + 17 * r.1} => ⟨77, 0, [(7, .int .i64 r.1.1), (6, .pv (.str r.1.2)), (1, .ptr 0 0)], [⟨228, true, c.d⟩]⟩) (fun r => c.dl.length - r.1.1) ⟨(0, u4), by simp⟩ (gc [0]) ?_
  rintro ⟨⟨i, v⟩, hi, hv⟩
  dsimp only at hi hv ⊢
  have hy := fun h : i < c.dl.length => fzY_at c.dl i h
  generalize c.dl.getD i Dt0 = x at *
  have F := @hy
  refine rn F ?_
  repeat' (first
    | with_reducible exact ⟨⟩
    | (refine sB F ?_ ?_ <;> intro hZ)
    | (refine vc_S (rput1 v (by omega) x.pg) rfl ?_; rintro v1 hv1; refine rn F ?_)
    | (refine vc_S (rput8 v1 (by omega) x.rc) rfl ?_; rintro v2 hv2; refine rn F ?_)
    | (refine vc_S (rput8 v2 (by omega) x.last) rfl ?_; rintro v3 hv3; refine rn F ?_)
    | (refine vc_S (c3) rfl ?_; rintro ⟨w, e2⟩ hw2; refine rn F ?_))
  all_goals first
    | exact ⟨⟨(i + 1, v3), by dsimp only; omega, by dsimp only; omega⟩, by dsimp only; omega, (gc [0])⟩
    | skip
  dsimp only at hw2
  have hadd2 := str_add (a := v) (b := w) (by omega)
  have F := @hadd2
  refine rn F ?_
  exact ⟨rfl, rfl, (v ++ w, 0), rfl, by dsimp only; rw [List.length_append]; omega⟩
theorem forceS_ev {x : Lg} {n : Int} (h : (forceS x n).2 = 0) : Ev x (forceS x n).1 := by
  unfold forceS at h ⊢
  split at h
  · simp at h
  rename_i q1
  split at h
  · simp at h
  rename_i q2
  rw [if_neg q1, if_neg q2]
  refine ⟨rfl, List.prefix_rfl, fun hv => ?_⟩
  have hd := lgB_hd hv
  unfold lgB at hv ⊢
  simp only [Bool.and_eq_true, decide_eq_true_eq] at hv ⊢
  refine ⟨?_, hv.2⟩
  simp only [Lg.hd, Lg.end_] at hd q2 ⊢
  split <;> omega
theorem forceS_len (x : Lg) (n : Int) (h : x.es.length ≤ 4096) : (forceS x n).1.es.length ≤ 4096 := by
  unfold forceS
  repeat' split
  all_goals first | exact Nat.zero_le _ | exact h
theorem addQ_force {k k1 : Kn} {e : E} {n1 e1 : Int} (hq : addQ k e (k1, n1, e1)) (h : e1 = 0) : (forceS k1.lg n1).2 = 0 := by
  obtain ⟨e', ⟨_, _, _, hl, _⟩, hk, hn, hv⟩ := hq.2 h
  dsimp only at hk hn hv
  subst hk
  unfold forceS
  rw [if_neg (by rw [hv]; decide), if_neg]
  simp only [Kn.add, Lg.end_, List.length_append, List.length_cons, List.length_nil] at *
  omega
def takeQ (k : Kn) (a : Kn × Int × Int) : Prop := a.1.sm ∧ (a.2.2 = 0 → Ev k.lg a.1.lg)
theorem rtake_w (k : Kn) (h : k.sm) : VCalls prog 111 [.agg k.d] [] (RetS kie (takeQ k)) := by
  refine dk Tryz.func111 ?_
  have c1 := rcpof_w k h
  have c2 := fun c hc => rcpenc_w c hc
  have c3 := fun t => rkadd_w k h ⟨0, 6, 0, 0, 0, 0, Ch0, t⟩
  have e0 : ∀ n e, e ≠ 0 → takeQ k (Kn0, n, e) := fun n e h => ⟨Kn0_sm, fun h2 => absurd h2 h⟩
  (unfold Tryz.f111; refine rn trivial ?_)
  refine rn F ?_
  repeat' (first
    | with_reducible exact ⟨⟩
    | (refine sB F ?_ ?_ <;> intro hZ)
    | (refine vc_S (c1) rfl ?_; rintro ⟨c, e⟩ hc; refine rn F ?_)
    | (refine vc_S (c2 c hc) rfl ?_; rintro ⟨t, e2⟩ ht; refine rn F ?_)
    | (refine vc_S (c3 _) rfl ?_; rintro ⟨k1, n1, e1⟩ hq; refine rn F ?_)
    | refine vp F (rforce_v k1.lg (Nat.le_trans hq.1.1 (by decide)) n1) ?_)
  all_goals first
    | exact ⟨rfl, rfl, (Kn0, 0, 21), rfl, e0 _ _ (by decide)⟩
    | exact ⟨rfl, rfl, (Kn0, 0, e), rfl, e0 _ _ (by assumption)⟩
    | exact ⟨rfl, rfl, (Kn0, 0, e1), rfl, e0 _ _ (by assumption)⟩
    | skip
  have he1 : e1 = 0 := by omega
  obtain ⟨q1, q2, q3, q4, q5, q6, q7⟩ := addQ_ev hq he1
  obtain ⟨r1, r2, r3, r4, r5, r6⟩ := hq.1
  have hf := forceS_ev (addQ_force hq he1)
  exact ⟨rfl, rfl, (⟨k1.pg, k1.nx, (forceS k1.lg n1).1, k1.pl, k1.lk, k1.tx, k1.ix, k1.la⟩, n1, 0), rfl, ⟨forceS_len _ _ r1, r2, r3, r4, r5, r6⟩, fun _ => q1.trans hf⟩
theorem rscheck_w (s : Sv) (hs : s.sm) : VCalls prog 100 [.agg s.d] [] (RetS siiD fun a => a.1.sm ∧ (a.2.2 = 0 → Ev s.k.lg a.1.k.lg)) := by
  refine dk Tryz.func100 ?_
  have c1 := rtake_w s.k hs.1
  (unfold Tryz.f100; refine rn trivial ?_)
  refine rn F ?_
  repeat' (first
    | with_reducible exact ⟨⟩
    | (refine sB F ?_ ?_ <;> intro hZ)
    | (refine vc_S (c1) rfl ?_; rintro ⟨k1, n1, e1⟩ hq; refine rn F ?_))
  all_goals first
    | exact ⟨rfl, rfl, (Sv0, 0, e1), rfl, Sv0_sm, fun h => absurd h (by assumption)⟩
    | exact ⟨rfl, rfl, (⟨k1, s.v⟩, n1, 0), rfl, ⟨hq.1, hs.2⟩, fun _ => hq.2 (by dsimp only; omega)⟩
    | skip
@[go_sem] def niZ (a : Int × Int) : DV := .tup [.int .i64 a.1, .int .i64 a.2]
theorem rgetn_w (s : List UInt8) (hs : s.length ≤ 100000000) (a : Int) (k : Nat) (h1 : 1 ≤ k) (h8 : k ≤ 8) (h0 : 0 ≤ a) : VCalls prog 217 [.pv (.str s), .int .i64 a, .int .i64 k] [] (RetS niZ fun r => (k ≤ 4 → 0 ≤ r.1 ∧ r.1 < 4294967296) ∧ (k ≤ 2 → r.1 < 65536) ∧ (k ≤ 1 → r.1 < 256) ∧ (r.2 = 0 → a + k ≤ s.length)) := by
  by_cases h : a + k ≤ s.length
  · obtain ⟨n, rfl⟩ : ∃ n : Nat, a = n := ⟨a.toNat, by omega⟩
    refine (rget_v s (by omega) n k ⟨h1, h8⟩ (by omega)).toS (IntKind.i64.wrap (accX s n k), 0) rfl ⟨fun hk => ?_, fun hk => ?_, fun hk => ?_, fun _ => h⟩
    all_goals
      have e := accX_leN s n k (by omega)
      have h2 := leN_lt s n k
      dsimp only
      rw [e, IntKind.wrap_i64]
    · have : (2 : Nat) ^ (8 * k) ≤ 2 ^ 32 := Nat.pow_le_pow_right (by omega) (by omega)
      omega
    · have : (2 : Nat) ^ (8 * k) ≤ 2 ^ 16 := Nat.pow_le_pow_right (by omega) (by omega)
      omega
    · have : (2 : Nat) ^ (8 * k) ≤ 2 ^ 8 := Nat.pow_le_pow_right (by omega) (by omega)
      omega
  · refine (rget_short s a k (by omega) h0 h).toS (0, 5) rfl ⟨fun _ => by decide, fun _ => by decide, fun _ => by decide, fun h => by simp at h⟩
structure RwS (n : Nat) where
  i : Nat
  l : List Rw
  hl : l.length = i
  hi : i ≤ n
@[go_sem] def ixD (a : List Rw × Int) : DV := .tup [.agg [.pv (.sl (fz encR a.1))], .int .i64 a.2]
theorem rixdec_w (s : List UInt8) (hs : s.length ≤ 100000000) : VCalls prog 258 [.pv (.str s)] [] (RetS ixD fun a => a.1.length ≤ 64) := by
  refine dk Tryz.func258 ?_
  have c1 := rgetn_w s hs 0 2 (by omega) (by omega) (by omega)
  have c8 := fun a h => rgetn_w s hs a 8 (by omega) (by omega) h
  (unfold Tryz.f258; refine rn trivial ?_)
  refine rn F ?_
  repeat' (first
    | with_reducible exact ⟨⟩
    | (refine sG F ?_ ?_ <;> intro hZ)
    | (refine sB F ?_ ?_ <;> intro hZ)
    | (refine vc_S (c1) rfl ?_; rintro ⟨n, e⟩ hn; refine rn F ?_))
  all_goals first
    | exact ⟨rfl, rfl, ([], _), rfl, Nat.zero_le _⟩
    | skip
  dsimp only at hn
  obtain ⟨n, rfl⟩ : ∃ m : Nat, n = m := ⟨n.toNat, by omega⟩
  have hn2 : n < 65536 := by omega
  clear hn
  refine VLoop.nilOwnC 1 0 294 3 rfl rfl ?_
  refine rn trivial ?_
  refine vloopW (fun r : RwS n => ⟨77, 0, [(7, .int .i64 r.i), (6, .ptr 1 0), (4, .int .i64 n), (2, .ptr 0 0), (0, .pv (.str s))], [⟨93, true, [.pv (.slc [])]⟩, ⟨93, true, [.own 2 3 0 r.i]⟩, ⟨294, true, cells encR r.l⟩]⟩) (fun r => n - r.i) ⟨0, [], rfl, Nat.zero_le _⟩ (gc [0, 1, 2]) ?_
  rintro ⟨i, l, hl, hi⟩
  dsimp only at hi ⊢
  subst hl
  have hb : (l.length + 1) * 24 ≤ 140737488355328 := by omega
  have c9 := rixvalid_v l (by omega)
  have hix := fun h : ixB l = true => ixB_len h
  generalize ixB l = ok at *
  have F := @hb
  refine rn F ?_
  repeat' (first
    | with_reducible exact ⟨⟩
    | (refine sB F ?_ ?_ <;> intro hZ)
    | (refine vc_S (c8 (2 + 24 * (l.length : Int)) (by omega)) rfl ?_; rintro ⟨a1, e1⟩ h1; refine rn F ?_)
    | (refine vc_S (c8 (10 + 24 * (l.length : Int)) (by omega)) rfl ?_; rintro ⟨a2, e2⟩ h2; refine rn F ?_)
    | (refine vc_S (c8 (18 + 24 * (l.length : Int)) (by omega)) rfl ?_; rintro ⟨a3, e3⟩ h3; refine rn F ?_))
  · have hl2 : (l ++ [(⟨a1, a2, a3⟩ : Rw)]).length = l.length + 1 := by simp
    have hil : l.length < n := by omega
    clear h1 h2 h3
    refine ⟨⟨l.length + 1, l ++ [⟨a1, a2, a3⟩], hl2, hil⟩, by dsimp only; omega, ?_⟩
    exact (gc [0, 1, 5])
  have hix := fun h : ixB l = true => ixB_len h
  have c9 := rixvalid_v l (by omega)
  generalize ixB l = ok at *
  refine vl hb c9 ?_
  cases ok
  · skip
    have F := @hb
    refine rn F ?_
    exact ⟨rfl, rfl, ([], _), rfl, Nat.zero_le _⟩
  · skip
    have F := @hb
    refine rn F ?_
    exact ⟨rfl, rfl, (l, 0), rfl, (hix rfl).2⟩
structure DtS (n m : Nat) where
  i : Nat
  a : Int
  l : List Dt
  hl : l.length = i
  hi : i ≤ m
  ha : a = 11 + n + 17 * i
theorem rcpdec_w (s : List UInt8) (hs : s.length ≤ 3000000) : VCalls prog 254 [.pv (.str s)] [] (RetS cpD2 fun a => smN 64 a.1.tx ∧ a.1.dl.length ≤ 256 ∧ a.1.ix.length ≤ 64) := by
  refine dk Tryz.func254 ?_
  have c1 := rgetn_w s (by omega) 0 2 (by omega) (by omega) (by omega)
  have c2 := rgetn_w s (by omega) 2 4 (by omega) (by omega) (by omega)
  have c3 := rgetn_w s (by omega) 6 4 (by omega) (by omega) (by omega)
  have c4 := fun a h => rgetn_w s (by omega) a 1 (by omega) (by omega) h
  have c8 := fun a h => rgetn_w s (by omega) a 8 (by omega) (by omega) h
  (unfold Tryz.f254; refine rn trivial ?_)
  refine vc_S c1 rfl ?_
  rintro ⟨pg, e1⟩ h1
  refine rn trivial ?_
  refine vc_S c2 rfl ?_
  rintro ⟨nx, e2⟩ h2
  refine rn trivial ?_
  refine vc_S c3 rfl ?_
  rintro ⟨n, e3⟩ h3
  dsimp only at h3
  obtain ⟨n, rfl⟩ : ∃ m : Nat, n = m := ⟨n.toNat, by omega⟩
  have hn : n < 4294967296 := by omega
  clear h3
  refine rn F ?_
  repeat' (first
    | with_reducible exact ⟨⟩
    | (refine sG F ?_ ?_ <;> intro hZ)
    | (refine sB F ?_ ?_ <;> intro hZ))
  all_goals first | exact ⟨rfl, rfl, (Cp0, 5), rfl, smN_nil _, Nat.zero_le _, Nat.zero_le _⟩ | skip
  have hns : n + 10 ≤ s.length := by omega
  refine vc_S (c4 (10 + (n : Int)) (by omega)) rfl ?_
  rintro ⟨m, e4⟩ h4
  dsimp only at h4
  obtain ⟨m, rfl⟩ : ∃ k : Nat, m = k := ⟨m.toNat, by omega⟩
  have hm : m < 256 := by omega
  clear h4
  refine rn F ?_
  repeat' (first
    | with_reducible exact ⟨⟩
    | (refine sG F ?_ ?_ <;> intro hZ)
    | (refine sB F ?_ ?_ <;> intro hZ))
  all_goals first | exact ⟨rfl, rfl, (Cp0, 5), rfl, smN_nil _, Nat.zero_le _, Nat.zero_le _⟩ | skip
  have hns2 : 11 + n + 17 * m ≤ s.length := by omega
  refine VLoop.nilOwnC 1 3 209 3 rfl rfl ?_
  refine rn trivial ?_
  generalize htx : (s.take (10 + (n : Int)).toNat).drop 10 = txs
  have htl : txs.length ≤ 3000000 := by rw [← htx, List.length_drop, List.length_take]; omega
  refine vloopW (fun r : DtS n m => ⟨130, 0, [(11, .int .i64 r.i), (10, .int .i64 m), (9, .int .i64 r.a), (8, .pv (.str txs)), (4, .ptr 1 0), (2, .ptr 0 0), (0, .pv (.str s))], [⟨228, true, [.int .i64 0, .int .i64 0, .pv (.slc []), .pv (.slc []), .pv (.slc [])]⟩, ⟨228, true, [.int .i64 pg, .int .i64 nx, .pv (.slc []), .own 2 3 0 r.i, .pv (.slc [])]⟩, ⟨209, true, cells encY r.l⟩]⟩) (fun r => m - r.i) ⟨0, 10 + (n : Int) + 1, [], rfl, Nat.zero_le _, by omega⟩ (gc [0, 1, 2]) ?_
  rintro ⟨i, a, l, hl, hi, ha⟩
  dsimp only
  subst hl
  have hb : (l.length + 1) * 24 ≤ 140737488355328 := by omega
  by_cases hil : l.length < m
  · skip
    have F := @hb
    refine rn F ?_
    repeat' (first
      | with_reducible exact ⟨⟩
      | (refine vc_S (c4 a (by omega)) rfl ?_; rintro ⟨a1, e1⟩ h1; refine rn F ?_)
      | (refine vc_S (c8 (a + 1) (by omega)) rfl ?_; rintro ⟨a2, e2⟩ h2; refine rn F ?_)
      | (refine vc_S (c8 (a + 9) (by omega)) rfl ?_; rintro ⟨a3, e3⟩ h3; refine rn F ?_))
    have hl2 : (l ++ [(⟨a1, a2, a3⟩ : Dt)]).length = l.length + 1 := by simp
    clear h1 h2 h3
    refine ⟨⟨l.length + 1, a + 17, l ++ [⟨a1, a2, a3⟩], hl2, hil, by rw [ha]; omega⟩, by dsimp only; omega, ?_⟩
    exact (gc [0, 1, 5])
  obtain rfl : m = l.length := by omega
  have c9 := rtdecode_v txs htl
  have hq : smN 64 (decT txs).1 := by
    unfold decT
    split
    · exact smN_nil _
    split
    · exact smN_nil _
    split
    · exact smN_nil _
    · rename_i h; exact tblB_smN (by simpa using h)
  generalize decT txs = D at *
  obtain ⟨tx, et⟩ := D
  dsimp only at hq
  have ha2 : 0 ≤ a ∧ a ≤ s.length := by omega
  obtain ⟨a, rfl⟩ : ∃ k : Nat, a = k := ⟨a.toNat, by omega⟩
  have hsl : (s.drop a).length ≤ 100000000 := by rw [List.length_drop]; omega
  have hal : a ≤ s.length := by omega
  have F := (And.intro @hb @hal)
  refine rn F ?_
  repeat' (first
    | with_reducible exact ⟨⟩
    | (refine sB F ?_ ?_ <;> intro hZ)
    | refine vp F (c9) ?_
    | (refine vc_S (rixdec_w _ hsl) rfl ?_; rintro ⟨ix, ei⟩ hi2; refine rn F ?_))
  all_goals first | exact ⟨rfl, rfl, (Cp0, _), rfl, smN_nil _, Nat.zero_le _, Nat.zero_le _⟩ | skip
  dsimp only at hi2
  have c10 := rcpvalid_w ⟨pg, nx, tx, l, ix⟩ ⟨hq.mono (by decide), by dsimp only; omega, hi2⟩
  have F := @hb
  refine rn F ?_
  repeat' (first
    | with_reducible exact ⟨⟩
    | (refine sB F ?_ ?_ <;> intro hZ)
    | (refine vc_lendS (c10) ?_ (fun _ => rfl) ?_; (focus (refine rd F)); rintro b -; refine rn F ?_))
  all_goals first
    | exact ⟨rfl, rfl, (Cp0, _), rfl, smN_nil _, Nat.zero_le _, Nat.zero_le _⟩
    | exact ⟨rfl, rfl, (⟨pg, nx, tx, l, ix⟩, 0), rfl, hq, by dsimp only; omega, hi2⟩
    | skip
@[go_sem] def ltD (a : Cp × Int × Bool) : DV := .tup [.agg a.1.d, .int .i64 a.2.1, .bool a.2.2]
theorem lgB_ok {x : Lg} (h : lgB x = true) : ∀ i, i < x.es.length → (x.es.getD i E0).blob.length ≤ 8192 := by
  unfold lgB at h
  simp only [Bool.and_eq_true, List.all_eq_true, List.mem_range] at h
  intro i hi
  have := h.2 i hi
  simp only [lgC, Bool.and_eq_true] at this
  exact (okB_lens this.2).2.2
def cpQ (c : Cp) : Prop := smN 64 c.tx ∧ c.dl.length ≤ 256 ∧ c.ix.length ≤ 64
theorem Cp0_q : cpQ Cp0 := ⟨smN_nil _, Nat.zero_le _, Nat.zero_le _⟩
theorem rlatest_w (x : Lg) (hx : x.es.length ≤ 1000000) : VCalls prog 249 [.agg x.c] [] (RetS ltD fun a => cpQ a.1) := by
  refine dk Tryz.func249 ?_
  have c1 := rlvalid_v x (by omega)
  (unfold Tryz.f249; refine rn trivial ?_)
  cases hv : lgB x
  · rw [hv] at c1
    refine rn F ?_
    repeat' (first
      | with_reducible exact ⟨⟩
      | refine vp F (c1) ?_)
    exact ⟨rfl, rfl, (Cp0, 0, false), rfl, Cp0_q⟩
  rw [hv] at c1
  have hs := lgB_ok hv
  refine rn F ?_
  repeat' (first
    | with_reducible exact ⟨⟩
    | refine vp F (c1) ?_)
  refine vloopW (fun r : {r : To x.es.length × Int // r.2 = (r.1.i : Int) - 1} => ⟨47, 0, [(5, .int .i64 r.1.2), (2, .ptr 1 0), (1, .ptr 0 0)], [⟨63, true, x.c⟩, ⟨228, true, Zc⟩]⟩) (fun r => r.1.1.i) ⟨(⟨x.es.length, Nat.le_refl _⟩, (x.es.length : Int) - 1), rfl⟩ (gc [0, 1]) ?_
  rintro ⟨⟨⟨k, hk⟩, j⟩, hj⟩
  dsimp only at hj ⊢
  unfold Zc
  by_cases h0 : k = 0
  · subst h0
    have hj2 : ¬ j ≥ 0 := by omega
    have F := @hj2
    refine rn F ?_
    exact ⟨rfl, rfl, (Cp0, 0, false), rfl, Cp0_q⟩
  obtain ⟨i, rfl⟩ : ∃ i, k = i + 1 := ⟨k - 1, by omega⟩
  obtain rfl : j = (i : Int) := by omega
  have hg := fzE_g x.es i (by omega)
  have hb := hs i (by omega)
  have c2 := rcpdec_w (x.es.getD i E0).blob (by omega)
  have F := @hg
  refine rn F ?_
  repeat' (first
    | with_reducible exact ⟨⟩
    | (refine sB F ?_ ?_ <;> intro hZ)
    | (refine vc_S (c2) rfl ?_; rintro ⟨c, e⟩ hc; refine rn F ?_)
    | (refine vspine (id := 9) [0, 1, 2, 3, 4, 5, 6] [⟨[], [], 7, [1, 2, 3, 4, 5, 6], []⟩, ⟨[], [], 8, [], []⟩, ⟨[], [], 9, [], []⟩] (by kernel_rfl) (by kernel_rfl) ?_; refine rn F ?_))
  all_goals first
    | exact ⟨⟨(⟨i, by omega⟩, (i : Int) - 1), rfl⟩, by dsimp only; omega, (gc [0, 1])⟩
    | exact ⟨rfl, rfl, (c, _, true), rfl, hc⟩
    | skip
structure DyS (n : Nat) where
  i : Nat
  d : Bool
  out : List Dt
  hi : i ≤ n
  ho : out.length ≤ i + d.toNat
@[go_sem] def dtL (l : List Dt) : DV := .pv (.sl (fz encY l))
theorem rdirty_w (l : List Dt) (hl : l.length ≤ 1000000) (e : E) : VCalls prog 250 [.pv (.sl (fz encY l)), .agg e.d] [] (RetS dtL fun m => m.length ≤ l.length + 1) := by
  refine dk Tryz.func250 ?_
  have c1 := rchanges_v e
  generalize (e.kind == 1 || e.kind == 2) = ch at *
  (unfold Tryz.f250; refine rn trivial ?_)
  refine rn F ?_
  repeat' (first
    | with_reducible exact ⟨⟩
    | (refine sG F ?_ ?_ <;> intro hZ)
    | (refine sB F ?_ ?_ <;> intro hZ)
    | refine vp F (c1) ?_)
  all_goals first
    | exact ⟨rfl, rfl, l, rfl, Nat.le_succ _⟩
    | skip
  all_goals
    refine VLoop.nilOwn 5 209 3 rfl ?_
    refine vloopW (fun s : DyS l.length => ⟨100, 0, [(7, .int .i64 s.i), (6, .bool s.d), (5, .own 1 3 0 s.out.length), (3, .ptr 0 0), (0, .pv (.sl (fz encY l)))], [⟨46, true, e.d⟩, ⟨209, true, cells encY s.out⟩]⟩) (fun s => l.length - s.i) ⟨0, false, [], Nat.zero_le _, Nat.zero_le _⟩ (gc [0, 1]) ?_
    rintro ⟨i, d, out, hi, ho⟩
    dsimp only
    have hg := fun h : i < l.length => fzY_at l i h
    generalize l.getD i Dt0 = x at *
    have ho3 : out.length ≤ i + 1 := Nat.le_trans ho (Nat.add_le_add_left (Bool.toNat_le d) i)
    have hb1 : (out.length + 1) * 24 ≤ 140737488355328 := Nat.le_trans (Nat.mul_le_mul_right 24 (show out.length + 1 ≤ 1000002 by omega)) (by decide)
    have hb2 : (out.length + 1 + 1) * 24 ≤ 140737488355328 := Nat.le_trans (Nat.mul_le_mul_right 24 (show out.length + 1 + 1 ≤ 1000003 by omega)) (by decide)
    cases d
  all_goals first | simp only [Bool.toNat_false, Nat.add_zero] at ho | simp only [Bool.toNat_true] at ho
  all_goals
    have F := (And.intro @hg (And.intro @hb1 @hb2))
    refine rn F ?_
    repeat' (first
      | with_reducible exact ⟨⟩
      | (refine sG F ?_ ?_ <;> intro hZ)
      | (refine sB F ?_ ?_ <;> intro hZ)
      | refine vp F (c1) ?_)
  all_goals first
    | exact ⟨rfl, rfl, out, rfl, by omega⟩
    | exact ⟨rfl, rfl, _, rfl, by simp; omega⟩
    | exact ⟨⟨i + 1, false, out, by omega, by simp; omega⟩, by dsimp only; omega, (gc [0, 1])⟩
    | exact ⟨⟨i + 1, true, out, by omega, by simp; omega⟩, by dsimp only; omega, (gc [0, 1])⟩
    | (refine ⟨⟨i + 1, false, out ++ [⟨x.pg, x.rc, x.last⟩], by omega, by simp; omega⟩, by dsimp only; omega, ?_⟩; dsimp only; rw [List.length_append]; exact (gc [0, 4]))
    | (refine ⟨⟨i + 1, true, out ++ [⟨x.pg, x.rc, x.last⟩], by omega, by simp; omega⟩, by dsimp only; omega, ?_⟩; dsimp only; rw [List.length_append]; exact (gc [0, 4]))
    | (refine ⟨⟨i + 1, true, out ++ [⟨e.c.pg, e.lsn, e.lsn⟩] ++ [⟨x.pg, x.rc, x.last⟩], by omega, by simp; omega⟩, by dsimp only; omega, ?_⟩; dsimp only; rw [List.length_append, List.length_append]; exact (gc [0, 6]))
    | (refine ⟨⟨i + 1, false, out ++ [⟨x.pg, x.rc, e.lsn⟩], by omega, by simp; omega⟩, by dsimp only; omega, ?_⟩; dsimp only; rw [List.length_append]; exact (gc [0, 4]))
    | (refine ⟨⟨i + 1, true, out ++ [⟨x.pg, x.rc, e.lsn⟩], by omega, by simp; omega⟩, by dsimp only; omega, ?_⟩; dsimp only; rw [List.length_append]; exact (gc [0, 4]))
    | (refine ⟨⟨i + 1, true, out ++ [⟨e.c.pg, e.lsn, e.lsn⟩] ++ [⟨x.pg, x.rc, e.lsn⟩], by omega, by simp; omega⟩, by dsimp only; omega, ?_⟩; dsimp only; rw [List.length_append, List.length_append]; exact (gc [0, 6]))
    | (refine ⟨⟨i + 1, false, out ++ [⟨x.pg, IntKind.i64.wrap (e.ref + 1), x.last⟩], by omega, by simp; omega⟩, by dsimp only; omega, ?_⟩; dsimp only; rw [List.length_append]; exact (gc [0, 4]))
    | (refine ⟨⟨i + 1, true, out ++ [⟨x.pg, IntKind.i64.wrap (e.ref + 1), x.last⟩], by omega, by simp; omega⟩, by dsimp only; omega, ?_⟩; dsimp only; rw [List.length_append]; exact (gc [0, 4]))
    | (refine ⟨⟨i + 1, true, out ++ [⟨e.c.pg, e.lsn, e.lsn⟩] ++ [⟨x.pg, IntKind.i64.wrap (e.ref + 1), x.last⟩], by omega, by simp; omega⟩, by dsimp only; omega, ?_⟩; dsimp only; rw [List.length_append, List.length_append]; exact (gc [0, 6]))
    | skip
theorem rless_w (a b : Gr) : VCalls prog 255 [.agg a.d, .agg b.d] [] (RetS boD fun _ => True) := by
  refine dd Tryz.func255 ?_
  (unfold Tryz.f255; refine rn trivial ?_)
  refine rn F ?_
  repeat' (first
    | with_reducible exact ⟨⟩
    | (refine sB F ?_ ?_ <;> intro hZ))
  all_goals exact ⟨rfl, rfl, _, rfl, trivial⟩
@[go_sem] def grL (l : List Gr) : DV := .pv (.sl (fz encG l))
theorem rwith16_w (l : List Gr) (hl : l.length ≤ 10000000) (g : Gr) : VCalls prog 251 [.pv (.sl (fz encG l)), .agg g.d] [] (RetS grL fun m => m.length ≤ l.length + 1) := by
  refine dk Tryz.func251 ?_
  have c1 := fun a => rless_w a g
  (unfold Tryz.f251; refine rn trivial ?_)
  refine vloopW (fun s : To l.length => ⟨44, 0, [(5, .int .i64 s.i), (3, .ptr 0 0), (0, .pv (.sl (fz encG l)))], [⟨240, true, g.d⟩]⟩) (fun s => l.length - s.i) ⟨0, Nat.zero_le _⟩ (gc [0]) ?_
  rintro ⟨i, hi⟩
  dsimp only
  have hg := fun h : i < l.length => fzG_at l i h
  by_cases hil : i < l.length
  · have hg := fzG_at l i hil
    have c2 := rless_w (l.getD i Gr0) g
    generalize l.getD i Gr0 = x at *
    have he := allEq4 x.tx x.pg x.sl x.md g.tx g.pg g.sl g.md
    have hb : (i + 1 + (l.length - i)) * 32 ≤ 140737488355328 := by omega
    have F := (And.intro @hg (And.intro @he @hb))
    refine rn F ?_
    repeat' (first
      | with_reducible exact ⟨⟩
      | (refine sB F ?_ ?_ <;> intro hZ)
      | (refine vc_S (c2) rfl ?_; rintro b -; refine rn F ?_)
      | (refine vspine (id := 2) [0, 1, 2, 3, 4, 5, 6, 7, 8, 9] [⟨[], [], 10, [0, 1, 2, 3, 5, 6, 7], [11]⟩] (by kernel_rfl) (by kernel_rfl) ?_; refine rn F ?_)
      | (refine vspine (id := 4) [0, 1, 2, 3, 4, 5, 6, 7, 8, 9, 10, 11] [] (by kernel_rfl) (by kernel_rfl) ?_; refine rn F ?_)
      | (refine vspine (id := 6) [0, 1, 2, 4, 7, 8, 9] [⟨[5], [], 3, [0, 1, 4, 7, 8, 9], []⟩, ⟨[5], [5], 6, [0, 1, 2, 4, 7, 8, 9], []⟩, ⟨[], [], 10, [0, 1, 2, 4, 7, 8], []⟩, ⟨[], [], 11, [], []⟩] (by kernel_rfl) (by kernel_rfl) ?_; refine rn F ?_))
    all_goals first
      | exact ⟨⟨i + 1, by omega⟩, by dsimp only; omega, (gc [0])⟩
      | exact ⟨rfl, rfl, l, rfl, Nat.le_succ _⟩
      | exact ⟨rfl, rfl, _, rfl, by simp; omega⟩
      | skip
  · skip
    have F := trivial
    refine rn F ?_
    repeat' (first
      | with_reducible exact ⟨⟩
      | (refine vspine (id := 2) [0, 1, 2, 3, 4, 5, 6, 7, 8, 9] [⟨[], [], 10, [0, 1, 2, 3, 5, 6, 7], [11]⟩] (by kernel_rfl) (by kernel_rfl) ?_; refine rn F ?_)
      | (refine vspine (id := 4) [0, 1, 2, 3, 4, 5, 6, 7, 8, 9, 10, 11] [] (by kernel_rfl) (by kernel_rfl) ?_; refine rn F ?_)
      | (refine vspine (id := 6) [0, 1, 2, 4, 7, 8, 9] [⟨[5], [], 3, [0, 1, 4, 7, 8, 9], []⟩, ⟨[5], [5], 6, [0, 1, 2, 4, 7, 8, 9], []⟩, ⟨[], [], 10, [0, 1, 2, 4, 7, 8], []⟩, ⟨[], [], 11, [], []⟩] (by kernel_rfl) (by kernel_rfl) ?_; refine rn F ?_))
    exact ⟨rfl, rfl, _, rfl, by simp; omega⟩
@[go_sem] def lkR (a : List Gr × Int) : DV := .tup [.pv (.sl (fz encG a.1)), .int .i64 a.2]
structure LkO (n : Nat) where
  i : Nat
  out : List Gr
  hi : i ≤ n
  ho : out.length ≤ 100000 * i
structure LkI (n i : Nat) where
  k : Nat
  out : List Gr
  hk : k ≤ n
  ho : out.length ≤ 100000 * i + k
theorem rlocks_w (x : Lg) (hx : x.es.length ≤ 1000000) (l : List Tx) (hl : smN 65 l) : VCalls prog 221 [.agg x.c, .pv (.sl (fz encT l))] [] (RetS lkR fun a => a.1.length ≤ 6500000) := by
  refine dk Tryz.func221 ?_
  have h65 := hl.1
  (unfold Tryz.f221; refine rn trivial ?_)
  refine VLoop.wkS ?_
  refine rn trivial ?_
  refine vloopW (fun s : LkO l.length => ⟨68, 0, [(7, .int .i64 s.i), (6, .pv (.sl (fz encG s.out))), (2, .ptr 0 0), (1, .pv (.sl (fz encT l)))], [⟨63, true, x.c⟩]⟩) (fun s => l.length - s.i) ⟨0, [], Nat.zero_le _, Nat.zero_le _⟩ (gc [0]) ?_
  rintro ⟨i, out, hi, ho⟩
  dsimp only
  by_cases hil : i < l.length
  rotate_left
  · skip
    refine rn F ?_
    exact ⟨rfl, rfl, (out, 0), rfl, by dsimp only; omega⟩
  have hg := fzT_g l i hil
  have hss : (l.getD i Tx0).l.length ≤ 100000 := by rw [getD_eq _ _ hil]; exact (hl.2 _ (List.getElem_mem hil)).1
  generalize l.getD i Tx0 = t at *
  refine rn F ?_
  refine vloopW (fun s : LkI t.l.length i => ⟨68, 0, [(8, .int .i64 s.k), (7, .int .i64 i), (6, .pv (.sl (fz encG s.out))), (2, .ptr 0 0), (1, .pv (.sl (fz encT l)))], [⟨63, true, x.c⟩]⟩) (fun s => t.l.length - s.k) ⟨0, out, Nat.zero_le _, ho⟩ (gc [0]) ?_
  rintro ⟨k, out2, hk, ho2⟩
  dsimp only
  by_cases hkl : k < t.l.length
  rotate_left
  · skip
    have F := @hg
    refine rn F ?_
    exact ⟨⟨i + 1, out2, hil, by rw [Nat.mul_succ]; omega⟩, by dsimp only; omega, (gc [0])⟩
  have hg2 := fzI_get t.l k hkl
  have c1 := rget_e x (by omega) (t.l.getD k 0)
  generalize getE x (t.l.getD k 0) = r at *
  obtain ⟨e, f⟩ := r
  dsimp only at c1
  have c2 := rwith16_w out2 (by omega) ⟨e.tx, e.c.pg, e.c.sl, 2⟩
  have F := (And.intro @hg @hg2)
  refine rn F ?_
  repeat' (first
    | with_reducible exact ⟨⟩
    | (refine sG F ?_ ?_ <;> intro hZ)
    | (refine sB F ?_ ?_ <;> intro hZ)
    | refine vp F (c1) ?_
    | (refine vc_S (c2) rfl ?_; rintro m hm; refine rn F ?_)
    | (refine vspine (id := 8) [0, 1, 2, 3, 4, 5, 6, 7, 8] [⟨[13], [], 9, [1, 2, 3, 4, 5, 6, 7], [10, 11, 12]⟩, ⟨[13], [13], 14, [12], []⟩, ⟨[], [], 15, [], []⟩] (by kernel_rfl) (by kernel_rfl) ?_; refine rn F ?_)
    | (refine vspine (id := 11) [0, 1, 2, 3, 4, 5, 6, 7, 8, 9, 10, 11, 12] [] (by kernel_rfl) (by kernel_rfl) ?_; refine rn F ?_))
  all_goals first
    | exact ⟨rfl, rfl, ([], _), rfl, Nat.zero_le _⟩
    | exact ⟨⟨k + 1, m, hkl, by omega⟩, by dsimp only; omega, (gc [0])⟩
    | skip
structure An where
  pg : Int
  nx : Int
  cp : Int
  lo : List Tx
  lk : List Gr
  la : List Dt
  ix : List Rw
@[go_sem] def An.d (a : An) : List DV := [.int .i64 a.pg, .int .i64 a.nx, .int .i64 a.cp, .pv (.sl (fz encT a.lo)), .pv (.sl (fz encG a.lk)), .pv (.sl (fz encY a.la)), .pv (.sl (fz encR a.ix))]
def An0 : An := ⟨0, 0, 0, [], [], [], []⟩
def An.sm (a : An) (n : Nat) : Prop := smN 65 a.lo ∧ a.lk.length ≤ 6500000 ∧ a.la.length ≤ n ∧ a.ix.length ≤ 64
theorem An0_sm (n : Nat) : An0.sm n := ⟨smN_nil _, Nat.zero_le _, Nat.zero_le _, Nat.zero_le _⟩
@[go_sem] def anD (a : An × Int) : DV := .tup [.agg a.1.d, .int .i64 a.2]
theorem rnote16_w (a : An) (n : Nat) (hn : n ≤ 100000) (ha : a.sm n) (e : E) : VCalls prog 220 [.agg a.d, .agg e.d] [] (RetS anD fun r => r.1.sm (n + 1)) := by
  refine dk Tryz.func220 ?_
  obtain ⟨h1, h2, h3, h4⟩ := ha
  have hl := h1.1
  have c1 := rfind_v a.lo (by omega) e.tx
  have c2 := rbegin_v a.lo (h1.smL (by omega)) e.tx
  have c3 := rnote_v a.lo (h1.smL (by omega)) e
  have hs2 := beginS_sm (l := a.lo) e.tx
  have hs3 := noteS_sm (l := a.lo) e
  have c4 := rnote_v (beginS a.lo e.tx).1 (hs2.smL (by omega)) e
  have hs4 := noteS_sm (l := (beginS a.lo e.tx).1) e
  have c5 := rixnote_v a.ix (by omega) e
  have h5 := noteR_len a.ix e h4
  have c6 := rchanges_v e
  have c7 := rdirty_w a.la (by omega) e
  generalize noteS (beginS a.lo e.tx).1 e = N2 at *
  generalize beginS a.lo e.tx = B at *
  generalize noteS a.lo e = N1 at *
  generalize noteR a.ix e = R at *
  generalize (e.kind == 1 || e.kind == 2) = ch at *
  generalize idT a.lo e.tx = f at *
  obtain ⟨b, eb⟩ := B
  obtain ⟨n1, e1⟩ := N1
  obtain ⟨n2, e2⟩ := N2
  obtain ⟨r, er⟩ := R
  dsimp only at *
  have old : ∀ z, RetS anD (fun r => r.1.sm (n + 1)) (anD (a, z)) [] := fun z => ⟨rfl, rfl, (a, z), rfl, h1, h2, by dsimp only; omega, h4⟩
  (unfold Tryz.f220; refine rn trivial ?_)
  refine rn F ?_
  repeat' (first
    | with_reducible exact ⟨⟩
    | (refine sG F ?_ ?_ <;> intro hZ)
    | (refine sB F ?_ ?_ <;> intro hZ)
    | refine vp F (c1) ?_
    | refine vp F (c2) ?_
    | refine vp F (c3) ?_
    | refine vp F (c4) ?_
    | refine vp F (c5) ?_
    | refine vp F (c6) ?_
    | (refine vc_S (c7) rfl ?_; rintro la hla; refine rn F ?_))
  all_goals first
    | exact old _
    | exact ⟨rfl, rfl, (⟨a.pg, _, a.cp, b, a.lk, a.la, a.ix⟩, _), rfl, hs2, h2, by dsimp only; omega, h4⟩
    | exact ⟨rfl, rfl, (⟨a.pg, _, a.cp, n1, a.lk, a.la, a.ix⟩, _), rfl, hs3, h2, by dsimp only; omega, h4⟩
    | exact ⟨rfl, rfl, (⟨a.pg, _, a.cp, n1, a.lk, a.la, r⟩, _), rfl, hs3, h2, by dsimp only; omega, h5⟩
    | exact ⟨rfl, rfl, (⟨a.pg, _, a.cp, n1, a.lk, la, r⟩, _), rfl, hs3, h2, Nat.le_trans hla (Nat.succ_le_succ h3), h5⟩
    | exact ⟨rfl, rfl, (⟨a.pg, _, a.cp, n2, a.lk, a.la, a.ix⟩, _), rfl, hs4, h2, by dsimp only; omega, h4⟩
    | exact ⟨rfl, rfl, (⟨a.pg, _, a.cp, n2, a.lk, a.la, r⟩, _), rfl, hs4, h2, by dsimp only; omega, h5⟩
    | exact ⟨rfl, rfl, (⟨a.pg, _, a.cp, n2, a.lk, la, r⟩, _), rfl, hs4, h2, Nat.le_trans hla (Nat.succ_le_succ h3), h5⟩
theorem rbegin16_w (x : Lg) (hx : x.es.length ≤ 1000000) (n : Int) : VCalls prog 219 [.agg x.c, .int .i64 n] [] (RetS anD fun r => r.1.sm 256) := by
  refine dk Tryz.func219 ?_
  have c1 := rlatest_w x hx
  have c2 := rixnew_w n
  (unfold Tryz.f219; refine rn trivial ?_)
  refine rn F ?_
  repeat' (first
    | with_reducible exact ⟨⟩
    | (refine sB F ?_ ?_ <;> intro hZ)
    | (refine vc_S (c1) rfl ?_; rintro ⟨c, at_, ok⟩ hc; refine rn F ?_)
    | (refine vc_S (c2) rfl ?_; rintro ⟨ix, e⟩ hi; refine rn F ?_))
  all_goals first
    | exact ⟨rfl, rfl, (An0, 24), rfl, An0_sm _⟩
    | exact ⟨rfl, rfl, (⟨n, 1, 0, [], [], [], ix⟩, 0), rfl, smN_nil _, Nat.zero_le _, Nat.zero_le _, hi⟩
    | exact ⟨rfl, rfl, (⟨n, c.nx, at_, c.tx, [], c.dl, c.ix⟩, 0), rfl, hc.1.mono (by decide), Nat.zero_le _, hc.2.1, hc.2.2⟩
    | skip
section
attribute [local go_sem] lenT allT appT slkT srcT frzT app_T bodyc headc_seq headc_zero restc_seq restc_zero
structure AnS (x : Lg) where
  i : Nat
  a : An
  hi : i ≤ x.es.length
  ha : a.sm (256 + i)
structure LoS (l : List Tx) where
  i : Nat
  out : List Tx
  hi : i ≤ l.length
  ho : out.length ≤ i
  hs : ∀ t ∈ out, t.ss
def Za : List DV := [.int .i64 0, .int .i64 0, .int .i64 0, .pv (.slc []), .pv (.slc []), .pv (.slc []), .pv (.slc [])]
theorem analyse_tail (x : Lg) (hx : x.es.length ≤ 4096) (a : An) (ha : a.sm 10000) (out : List Tx) (ho : smN 65 out) : VWp prog (restc 8 (bodyc Tryz.f176)) (vpostK prog [ResultVar.cell 4 284, ResultVar.tmp 5] 0 (RetS anD fun r => r.1.sm 10000)) ⟨98, 0, [(9, .pv (.sl (fz encT out))), (6, .ptr 2 0), (4, .ptr 1 0), (2, .ptr 0 0)], [⟨63, true, x.c⟩, ⟨284, true, Za⟩, ⟨284, true, a.d⟩]⟩ := by
  refine vcode_sound _ _ _ ?_
  have c4 := rlocks_w x (by omega) out ho
  unfold Za
  (unfold Tryz.f176; refine rn trivial ?_)
  refine rn F ?_
  repeat' (first
    | with_reducible exact ⟨⟩
    | (refine sB F ?_ ?_ <;> intro hZ)
    | (refine vc_S (c4) rfl ?_; rintro ⟨lk, e⟩ hlk; refine rn F ?_))
  · exact ⟨rfl, rfl, (An0, _), rfl, An0_sm _⟩
  · exact ⟨rfl, rfl, (⟨a.pg, a.nx, a.cp, out, lk, a.la, a.ix⟩, 0), rfl, ho, hlk, ha.2.2.1, ha.2.2.2⟩
theorem ranalyse_w (x : Lg) (hx : x.es.length ≤ 4096) (n : Int) : VCalls prog 176 [.agg x.c, .int .i64 n] [] (RetS anD fun r => r.1.sm 10000) := by
  refine vcalls_dropW (fn := Tryz.f176) (c := bodyc Tryz.f176) Tryz.func176 rfl (by kernel_rfl) (by simp [Tryz.f176]) (VWp.postK ?_)
  refine vcut 8 ?_
  have tail := fun a ha out ho => analyse_tail x hx a ha out ho
  generalize restc 8 (bodyc Tryz.f176) = rest at *
  have c1 := rlvalid_v x (by omega)
  have c2 := rbegin16_w x (by omega) n
  generalize lgB x = ok at *
  have err : ∀ z, RetS anD (fun r => r.1.sm 10000) (anD (An0, z)) [] := fun z => ⟨rfl, rfl, (An0, z), rfl, An0_sm _⟩
  (unfold Tryz.f176; refine rn trivial ?_)
  refine rn F ?_
  repeat' (first
    | with_reducible exact ⟨⟩
    | (refine sG F ?_ ?_ <;> intro hZ)
    | (refine sB F ?_ ?_ <;> intro hZ)
    | refine vp F (c1) ?_
    | (refine vc_S (c2) rfl ?_; rintro ⟨a0, e0⟩ h0; refine rn F ?_))
  all_goals first | exact err _ | skip
  dsimp only at h0
  refine vloopW (fun s : AnS x => ⟨98, 0, [(8, .int .i64 s.i), (6, .ptr 2 0), (4, .ptr 1 0), (2, .ptr 0 0)], [⟨63, true, x.c⟩, ⟨284, true, Za⟩, ⟨284, true, s.a.d⟩]⟩) (fun s => x.es.length - s.i) ⟨0, a0, Nat.zero_le _, h0⟩ (gc [0, 1, 2]) ?_
  rintro ⟨i, a, hi, ha⟩
  dsimp only
  unfold Za
  by_cases hil : i < x.es.length
  · have hg := fzE_g x.es i hil
    have c3 := rnote16_w a (256 + i) (by omega) ha (x.es.getD i E0)
    generalize x.es.getD i E0 = e at *
    have F := @hg
    refine rn F ?_
    repeat' (first
      | with_reducible exact ⟨⟩
      | (refine sB F ?_ ?_ <;> intro hZ)
      | (refine vc_S (c3) rfl ?_; rintro ⟨a1, e1⟩ h1; refine rn F ?_)
      | (refine vspine (id := 11) [0, 1, 2, 3, 4, 5, 6, 7, 8] [] (by kernel_rfl) (by kernel_rfl) ?_; refine rn F ?_)
      | (refine vspine (id := 12) [0, 1, 2, 3, 4, 5] [⟨[], [], 6, [1, 2, 3, 4], [7, 8, 9]⟩, ⟨[], [], 10, [9], []⟩, ⟨[], [], 11, [], []⟩] (by kernel_rfl) (by kernel_rfl) ?_; refine rn F ?_))
    all_goals first
      | exact err _
      | exact ⟨⟨i + 1, a, hil, ha.1, ha.2.1, Nat.le_succ_of_le ha.2.2.1, ha.2.2.2⟩, by dsimp only; omega, (gc [0, 1, 2])⟩
      | exact ⟨⟨i + 1, a1, hil, h1⟩, by dsimp only; omega, (gc [0, 1, 2])⟩
      | skip
  have F := trivial
  refine rn F ?_
  refine VLoop.nilOwn 9 236 6 rfl ?_
  have hlo := ha.1.1
  refine vloopW (fun s : LoS a.lo => ⟨98, 0, [(10, .int .i64 s.i), (9, .own 3 6 0 s.out.length), (6, .ptr 2 0), (4, .ptr 1 0), (2, .ptr 0 0)], [⟨63, true, x.c⟩, ⟨284, true, Za⟩, ⟨284, true, a.d⟩, ⟨236, true, cells encT s.out⟩]⟩) (fun s => a.lo.length - s.i) ⟨0, [], Nat.zero_le _, Nat.zero_le _, fun t h => by simp at h⟩ (gc [0, 1, 2, 3]) ?_
  rintro ⟨k, out, hk, ho, hs⟩
  dsimp only
  unfold Za
  by_cases hkl : k < a.lo.length
  · have hg := fzT_g a.lo k hkl
    have hss : (a.lo.getD k Tx0).ss := by rw [getD_eq _ _ hkl]; exact ha.1.2 _ (List.getElem_mem hkl)
    have hb : (out.length + 1) * 80 ≤ 140737488355328 := Nat.le_trans (Nat.mul_le_mul_right 80 (show out.length + 1 ≤ 1000 by omega)) (by decide)
    generalize a.lo.getD k Tx0 = t at *
    have F := (And.intro @hg @hb)
    refine rn F ?_
    repeat' (first
      | with_reducible exact ⟨⟩
      | (refine sB F ?_ ?_ <;> intro hZ))
    · have hl2 : (out ++ [t]).length = out.length + 1 := by simp
      refine ⟨⟨k + 1, out ++ [t], hkl, by rw [hl2]; omega, fun z hz => ?_⟩, by dsimp only; omega, ?_⟩
      · rcases List.mem_append.1 hz with h | h
        · exact hs z h
        · rw [List.mem_singleton.1 h]; exact hss
      dsimp only
      rw [hl2]
      exact (gc [0, 1, 2, 5])
    · exact ⟨⟨k + 1, out, hkl, by omega, hs⟩, by dsimp only; omega, (gc [0, 1, 2, 3])⟩
  have hsm : smN 65 out := ⟨by omega, hs⟩
  have F := trivial
  refine rn F ?_
  refine ⟨⟨98, 0, [(9, .pv (.sl (fz encT out))), (6, .ptr 2 0), (4, .ptr 1 0), (2, .ptr 0 0)], [⟨63, true, x.c⟩, ⟨284, true, Za⟩, ⟨284, true, a.d⟩]⟩, .fzN (n := 3) ⟨rfl, rfl, Nat.zero_le _, by simp, ?_, ?_⟩, tail a (by have := ha; exact ⟨this.1, this.2.1, Nat.le_trans this.2.2.1 (by omega), this.2.2.2⟩) out hsm⟩
  · rfl
  · refine ⟨?_, rfl, rfl, rfl, trivial⟩
    (refine rn trivial ?_; try with_reducible exact ⟨⟩)
end
section
attribute [local go_sem] iteLe
structure Rd where
  tx : Int
  pg : Int
  sl : Int
  at_ : Int
  cell : Ce
def encO : Enc Rd := ⟨6, fun r => [.lit (.int .i64 r.tx), .lit (.int .i64 r.pg), .lit (.int .i64 r.sl), .lit (.int .i64 r.at_), .lit (.bool r.cell.set), .str r.cell.data], by decide, fun _ => rfl⟩
theorem lenO (l : List Rd) : (cells encO l).length = l.length * 6 := cells_len encO l
theorem allO (l : List Rd) (n : Nat) (h : l.length * 6 ≤ n) : (cells encO l).take n = cells encO l := by rw [List.take_of_length_le]; rw [lenO]; exact h
theorem frzO {n : Nat} {hp : Heap} {len : Nat} {l : List Rd} (h : l.length = len) : frzC n hp 0 6 len (some (cells encO l)) = some (.sl (fz encO l)) := frzC_cells encO h
theorem app_O (l : List Rd) (a b c d : Int) (x : Bool) (s : List UInt8) : cells encO l ++ [.pv (.lit (.int .i64 a)), .pv (.lit (.int .i64 b)), .pv (.lit (.int .i64 c)), .pv (.lit (.int .i64 d)), .pv (.lit (.bool x)), .pv (.str s)] = cells encO (l ++ [⟨a, b, c, d, ⟨x, s⟩⟩]) := by rw [cells_app]; rfl
attribute [go_sem] lenO allO frzO app_O
structure Sp where
  kind : Int
  tx : Int
  pg : Int
  torn : Int
  cut : Int
  a : Ac
@[go_sem] def Sp.d (t : Sp) : List DV := [.int .i64 t.kind, .int .i64 t.tx, .int .i64 t.pg, .int .i64 t.torn, .int .i64 t.cut, .int .i64 t.a.kind, .int .i64 t.a.pg, .int .i64 t.a.sl, .pv (.str t.a.data)]
structure Sc where
  s : Sv
  tx : List Int
  rd : List Rd
  dead : Bool
def Sc.sm (c : Sc) (n : Nat) : Prop := c.s.sm ∧ c.tx.length ≤ n ∧ c.rd.length ≤ n
@[go_sem] def scB (c : Sc) (i j : Nat) : Blk := ⟨165, true, c.s.d ++ [.own i 1 0 c.tx.length, .own j 6 0 c.rd.length, .bool c.dead]⟩
@[go_sem] def scT (l : List Int) : Blk := ⟨3, true, cells encI l⟩
@[go_sem] def scR (l : List Rd) : Blk := ⟨194, true, cells encO l⟩
@[go_sem] def deadI : Blk := ⟨3, false, []⟩
@[go_sem] def deadO : Blk := ⟨194, false, []⟩
def ScEnd {α : Type} (f : α → DV) (Q : Nat → Sc → α → Prop) : DV → Heap → Prop := fun r h' => ∃ c a B, r = f a ∧ (f a).nums (fun _ => false) = true ∧ ((Q 0 c a ∧ h' = scB c 1 2 :: scT c.tx :: scR c.rd :: [B]) ∨ (Q 1 c a ∧ h' = scB c 3 2 :: deadI :: scR c.rd :: scT c.tx :: [B]) ∨ (Q 2 c a ∧ h' = scB c 1 3 :: scT c.tx :: deadO :: scR c.rd :: [B]))
theorem ScEnd.mono {α : Type} {f : α → DV} {Q Q' : Nat → Sc → α → Prop} (h : ∀ n c a, Q n c a → Q' n c a) : ∀ r h', ScEnd f Q r h' → ScEnd f Q' r h'
  | _, _, ⟨c, a, B, e1, e2, .inl ⟨q, e⟩⟩ => ⟨c, a, B, e1, e2, .inl ⟨h _ _ _ q, e⟩⟩
  | _, _, ⟨c, a, B, e1, e2, .inr (.inl ⟨q, e⟩)⟩ => ⟨c, a, B, e1, e2, .inr (.inl ⟨h _ _ _ q, e⟩)⟩
  | _, _, ⟨c, a, B, e1, e2, .inr (.inr ⟨q, e⟩)⟩ => ⟨c, a, B, e1, e2, .inr (.inr ⟨h _ _ _ q, e⟩)⟩
theorem vc_sc {α : Type} {f : α → DV} {Q : Nat → Sc → α → Prop} {P : Program} {g : FuncId} {args args0 : List DV} {hp : Heap} {K : DV → Heap → Prop} {c : Sc} (k0 k1 k2 : Nat) (cc : VCalls P g args0 [scB c 1 2, scT c.tx, scR c.rd] (ScEnd f Q)) (hk0 : hp[k0]? = some (scB c k1 k2)) (hk1 : hp[k1]? = some (scT c.tx)) (hk2 : hp[k2]? = some (scR c.rd)) (n01 : k0 ≠ k1) (n02 : k0 ≠ k2) (n12 : k1 ≠ k2)
    (ha0 : args0 = args.map (DV.ren fun j => [k0, k1, k2].idxOf j)) (ha : DV.nums.go [k0, k1, k2].contains args = true)
    (hN : ∀ c a, Q 0 c a → ∀ B, K (f a) (((hp.set k0 (scB c k1 k2)).set k1 (scT c.tx)).set k2 (scR c.rd) ++ [B]))
    (hT : ∀ c a, Q 1 c a → ∀ B, K (f a) (((hp.set k0 (scB c hp.length k2)).set k1 deadI).set k2 (scR c.rd) ++ scT c.tx :: [B]))
    (hR : ∀ c a, Q 2 c a → ∀ B, K (f a) (((hp.set k0 (scB c k1 hp.length)).set k1 (scT c.tx)).set k2 deadO ++ scR c.rd :: [B])) : VCalls P g args hp K := by
  have l0 : k0 < hp.length := (List.getElem?_eq_some_iff.1 hk0).1
  have l1 : k1 < hp.length := (List.getElem?_eq_some_iff.1 hk1).1
  have l2 : k2 < hp.length := (List.getElem?_eq_some_iff.1 hk2).1
  have q1 : (k0 == k1) = false := by simp [n01]
  have q2 : (k0 == k2) = false := by simp [n02]
  have q3 : (k1 == k2) = false := by simp [n12]
  have rt : ∀ (σ : Nat → Nat) l, renB σ (scT l) = scT l := fun σ l => renB_plain (cells_nums _ _ _)
  have rr : ∀ (σ : Nat → Nat) l, renB σ (scR l) = scR l := fun σ l => renB_plain (cells_nums _ _ _)
  have rs : ∀ (σ : Nat → Nat) (c : Sc) i j, renB σ (scB c i j) = scB c (σ i) (σ j) := fun σ c i j => rfl
  have i0 : [k0, k1, k2].idxOf k0 = 0 := by simp
  have i1 : [k0, k1, k2].idxOf k1 = 1 := by simp [List.idxOf_cons, q1]
  have i2 : [k0, k1, k2].idxOf k2 = 2 := by simp [List.idxOf_cons, q2, q3]
  refine (VCalls.frame [k0, k1, k2] (by simp [n01, n02, n12]) ?_ ?_ cc ha0 ha).mono ?_
  · simp only [lentTo, List.map_cons, List.map_nil, hk0, hk1, hk2, Option.map_some, allSome, rt, rr, rs, i1, i2]
  · unfold lentOk
    rw [List.all_eq_true]
    intro k hk
    simp only [List.mem_cons, List.not_mem_nil, or_false] at hk
    rcases hk with rfl | rfl | rfl
    · rw [hk0]
      simp [scB, Sv.d, DV.nums, DV.nums.go]
    · rw [hk1]
      dsimp only
      rw [show (scT c.tx).cells = cells encI c.tx from rfl, nums_mono_go _ _ (cells_nums _ _ _)]; simp
    · rw [hk2]
      dsimp only
      rw [show (scR c.rd).cells = cells encO c.rd from rfl, nums_mono_go _ _ (cells_nums _ _ _)]; simp
  · rintro r h2 ⟨r0, h', ⟨c1, a, B, rfl, hn, e⟩, -, rfl, rfl⟩
    rw [ren_id _ _ hn]
    have b1 : back [k0, k1, k2] hp.length 1 = k1 := rfl
    have b2 : back [k0, k1, k2] hp.length 2 = k2 := rfl
    have b3 : back [k0, k1, k2] hp.length 3 = hp.length := rfl
    have rI : ∀ (σ : Nat → Nat), renB σ deadI = deadI := fun σ => rfl
    have rO : ∀ (σ : Nat → Nat), renB σ deadO = deadO := fun σ => rfl
    rcases e with ⟨q, rfl⟩ | ⟨q, rfl⟩ | ⟨q, rfl⟩ <;> rw [behind_three l0 l1 l2 n01 n02 n12]
    · rw [rs, rt, rr, b1, b2]; exact hN c1 a q _
    · rw [rs, rI, rr, b2, b3, List.map_cons, rt]; exact hT c1 a q _
    · rw [rs, rt, rO, b1, b3, List.map_cons, rr]; exact hR c1 a q _
def resR (e : Int) : Rs := if e = 0 then ⟨1, 0, 0, Ce0, 0⟩ else failR e
theorem rresult_v (e : Int) : VCalls prog 101 [.int .i64 e] [] (Ret (.agg (resR e).d)) := by
  refine dd Tryz.func101 ?_
  have c1 := failed_v e
  (unfold Tryz.f101; refine rn trivial ?_)
  unfold resR
  refine rn F ?_
  repeat' (first
    | with_reducible exact ⟨⟩
    | (refine sB F ?_ ?_ <;> intro hZ)
    | refine vp F (c1) ?_)
  all_goals first
    | (rw [if_pos (by assumption)]; first | done | rfl)
    | (rw [if_neg (by assumption)]; first | done | rfl)
@[go_sem] def rsD (r : Rs) : DV := .agg r.d
theorem rkeep_w (c : Sc) (s : Sv) (e : Int) : VCalls prog 97 [.ptr 0 0, .agg s.d, .int .i64 e] [scB c 1 2, scT c.tx, scR c.rd] (ScEnd rsD fun n c' r => n = 0 ∧ c' = ⟨if e = 0 then s else c.s, c.tx, c.rd, c.dead⟩ ∧ r = resR e) := by
  refine vcalls_keepg (fn := Tryz.f97) Tryz.func97 rfl (by kernel_rfl) (by simp [Tryz.f97]) ?_
  have c1 := rresult_v e
  (unfold Tryz.f97; refine rn trivial ?_)
  refine rn F ?_
  repeat' (first
    | with_reducible exact ⟨⟩
    | (refine sB F ?_ ?_ <;> intro hZ)
    | refine vp F (c1) ?_)
  · exact vpostG_gc ⟨15, 3, [(6, .ptr 3 0)], [scB ⟨s, c.tx, c.rd, c.dead⟩ 1 2, scT c.tx, scR c.rd, ⟨167, true, (resR e).d⟩]⟩ (gc [0, 1, 2, 4]) ⟨⟨s, c.tx, c.rd, c.dead⟩, resR e, _, rfl, rfl, .inl ⟨⟨rfl, by rw [if_pos (by assumption)], rfl⟩, rfl⟩⟩
  · exact vpostG_gc ⟨15, 3, [(6, .ptr 3 0)], [scB c 1 2, scT c.tx, scR c.rd, ⟨167, true, (resR e).d⟩]⟩ (gc [0, 1, 2, 4]) ⟨c, resR e, _, rfl, rfl, .inl ⟨⟨rfl, by rw [if_neg (by assumption)], rfl⟩, rfl⟩⟩
end
section
attribute [local go_sem] iteLe
def scQ (c : Sc) (n m : Nat) (c' : Sc) (_ : Rs) : Prop := m ≠ 1 ∧ c'.sm n ∧ c'.dead = c.dead ∧ Ev c.s.k.lg c'.s.k.lg
theorem scQ_same (c : Sc) (n : Nat) (hc : c.sm n) (r : Rs) : scQ c (n + 1) 0 c r := ⟨by decide, ⟨hc.1, Nat.le_succ_of_le hc.2.1, Nat.le_succ_of_le hc.2.2⟩, rfl, Ev.refl _⟩
theorem ract_w (c : Sc) (n : Nat) (hn : n ≤ 2000) (hc : c.sm n) (t : Sp) : VCalls prog 98 [.ptr 0 0, .agg t.d] [scB c 1 2, scT c.tx, scR c.rd] (ScEnd rsD (scQ c (n + 1))) := by
  refine vcalls_keepg (fn := Tryz.f98) Tryz.func98 rfl (by kernel_rfl) (by simp [Tryz.f98]) ?_
  have c1 := failed_v 16
  have hq0 := scQ_same c n hc
  have h1 := hc.2.1
  have h2 := hc.2.2
  by_cases h0 : ∃ i : Nat, i < c.tx.length ∧ t.tx = i + 1
  rotate_left
  · have h3 : t.tx < 1 ∨ c.tx.length < t.tx := by
      by_cases ha : t.tx < 1
      · exact .inl ha
      · by_cases hb : c.tx.length < t.tx
        · exact .inr hb
        · exact absurd ⟨(t.tx - 1).toNat, by omega, by omega⟩ h0
    (unfold Tryz.f98; refine rn trivial ?_)
    refine rn F ?_
    repeat' (first
      | with_reducible exact ⟨⟩
      | (refine sG F ?_ ?_ <;> intro hZ)
      | refine vp F (c1) ?_
      | (refine vspine (id := 1) [0, 1, 2, 3, 4, 5, 6, 7, 8, 9, 10, 11, 12, 13, 14, 15, 16, 17, 18, 19, 20, 21, 22, 23, 24] [] (by kernel_rfl) (by kernel_rfl) ?_; refine rn F ?_))
    all_goals first
      | (exfalso; omega)
      | exact vpostG_gc ⟨95, 3, [(4, .ptr 3 0)], [scB c 1 2, scT (Sc.tx c), scR (Sc.rd c), ⟨167, true, Rs.d (failR 16)⟩]⟩ (gc [0, 1, 2, 4]) ⟨c, failR 16, _, rfl, rfl, .inl ⟨hq0 _, rfl⟩⟩
      | skip
  obtain ⟨i, hi, ht⟩ := h0
  have hg := cellsI_get c.tx i hi
  have d1 := rido_w c.s hc.1 (c.tx.getD i 0) t.a
  have e1 : (↑i + 1 - 1 : Int) = ↑i := by omega
  have hlt : (i < c.tx.length) = True := eq_true hi
  (unfold Tryz.f98; refine rn trivial ?_)
  simp only [ht]
  have F := (And.intro @hg (And.intro @e1 @hlt))
  refine rn F ?_
  repeat' (first
    | with_reducible exact ⟨⟩
    | (refine sG F ?_ ?_ <;> intro hZ)
    | (refine sB F ?_ ?_ <;> intro hZ)
    | refine vp F (c1) ?_
    | (refine vc_S (d1) rfl ?_; rintro ⟨s2, r2⟩ hq; refine rn F ?_)
    | refine vp F (rlLast_v s2.k.lg (Nat.le_trans hq.1.1.1 (by decide))) ?_
    | (refine vspine (id := 1) [0, 1, 2, 3, 4, 5, 6, 7, 8, 9, 10, 11, 12, 13, 14, 15, 16, 17, 18, 19, 20, 21, 22, 23, 24] [] (by kernel_rfl) (by kernel_rfl) ?_; refine rn F ?_)
    | (refine vspine (id := 3) [0, 1, 2, 3, 4, 5, 6, 7, 8] [⟨[], [], 9, [], []⟩] (by kernel_rfl) (by kernel_rfl) ?_; refine rn F ?_)
    | (refine vspine (id := 4) [0, 1, 2, 3, 4, 5, 6] [⟨[11, 12], [], 7, [0, 1, 2, 5], [8, 9, 10]⟩, ⟨[11, 12], [11], 13, [10], []⟩, ⟨[12], [12], 14, [], []⟩] (by kernel_rfl) (by kernel_rfl) ?_; refine rn F ?_)
    | (refine vspine (id := 9) [0, 1, 2, 3, 4, 5, 6, 7, 8, 9, 10, 11, 12, 13, 14, 16, 17] [⟨[], [], 15, [0, 1, 2, 3, 4, 5, 6, 7, 8, 9, 10, 11, 12, 13, 16, 17], [18]⟩, ⟨[19], [19], 20, [0, 1, 2, 3, 5, 6, 7, 8, 9, 10, 11, 12, 13, 14, 16, 17, 18], [21, 22]⟩, ⟨[], [], 23, [21], []⟩] (by kernel_rfl) (by kernel_rfl) ?_; refine rn F ?_))
  all_goals first
    | exact vpostG_gc ⟨95, 3, [(4, .ptr 3 0)], [scB c 1 2, scT (Sc.tx c), scR (Sc.rd c), ⟨167, true, Rs.d (failR 16)⟩]⟩ (gc [0, 1, 2, 4]) ⟨c, failR 16, _, rfl, rfl, .inl ⟨hq0 _, rfl⟩⟩
    | exact vpostG_gc ⟨95, 3, [(4, .ptr 3 0)], [scB c 1 2, scT (Sc.tx c), scR (Sc.rd c), ⟨167, true, Rs.d (r2)⟩]⟩ (gc [0, 1, 2, 4]) ⟨c, r2, _, rfl, rfl, .inl ⟨hq0 _, rfl⟩⟩
    | exact vpostG_gc ⟨95, 3, [(4, .ptr 3 0)], [scB ⟨s2, c.tx, c.rd, c.dead⟩ 1 2, scT (Sc.tx ⟨s2, c.tx, c.rd, c.dead⟩), scR (Sc.rd ⟨s2, c.tx, c.rd, c.dead⟩), ⟨167, true, Rs.d (r2)⟩]⟩ (gc [0, 1, 2, 4]) ⟨⟨s2, c.tx, c.rd, c.dead⟩, r2, _, rfl, rfl, .inl ⟨⟨by decide, ⟨hq.1, by dsimp only; omega, by dsimp only; omega⟩, rfl, hq.2⟩, rfl⟩⟩
    | skip
  have hl : (c.rd ++ [(⟨c.tx.getD i 0, t.a.pg, t.a.sl, lastS s2.k.lg, r2.cell⟩ : Rd)]).length = c.rd.length + 1 := by simp
  generalize hr : c.rd ++ [(⟨c.tx.getD i 0, t.a.pg, t.a.sl, lastS s2.k.lg, r2.cell⟩ : Rd)] = rd at *
  rw [← hl]
  exact vpostG_gc ⟨95, 3, [(4, .ptr 4 0)], [scB ⟨s2, c.tx, rd, c.dead⟩ 1 3, scT c.tx, deadO, scR rd, ⟨167, true, r2.d⟩]⟩ (gc [0, 1, 2, 8, 4]) ⟨⟨s2, c.tx, rd, c.dead⟩, r2, _, rfl, rfl, .inr (.inr ⟨⟨by decide, ⟨hq.1, by dsimp only; omega, by dsimp only; omega⟩, rfl, hq.2⟩, rfl⟩)⟩
end
section
attribute [local go_sem] iteLe
def scI (I : Lg → Prop) (c : Sc) (n _ : Nat) (c' : Sc) (_ : Rs) : Prop := c'.sm n ∧ (I c.s.k.lg → I c'.s.k.lg)
theorem scI_same (I : Lg → Prop) (c : Sc) (n : Nat) (hc : c.sm n) (r : Rs) : scI I c (n + 1) 0 c r := ⟨⟨hc.1, Nat.le_succ_of_le hc.2.1, Nat.le_succ_of_le hc.2.2⟩, id⟩
abbrev StepC (I : Lg → Prop) (c : Sc) (n : Nat) (t : Sp) : Prop := VCalls prog 87 [.ptr 0 0, .agg t.d] [scB c 1 2, scT c.tx, scR c.rd] (ScEnd rsD (scI I c (n + 1)))
theorem keepS (I : Lg → Prop) (hI : ∀ x y, Ev x y → I x → I y) {s s2 : Sv} {e : Int} (hs : s.sm) (hq : s2.sm ∧ (e = 0 → Ev s.k.lg s2.k.lg)) : (if e = 0 then s2 else s).sm ∧ (I s.k.lg → I (if e = 0 then s2 else s).k.lg) := by
  split
  · rename_i h; exact ⟨hq.1, hI _ _ (hq.2 h)⟩
  · exact ⟨hs, id⟩
theorem rstep3_w (I : Lg → Prop) (hI : ∀ x y, Ev x y → I x → I y) (c : Sc) (n : Nat) (hn : n ≤ 2000) (hc : c.sm n) (t : Sp) (ht : t.kind = 3) : StepC I c n t := by
  refine vcalls_keepg (fn := Tryz.f87) Tryz.func87 rfl (by kernel_rfl) (by simp [Tryz.f87]) ?_
  obtain ⟨k, tx, pg, torn, cut, a⟩ := t
  dsimp only at ht
  subst ht
  have c1 := rsflush_w c.s hc.1 pg
  (unfold Tryz.f87; refine rn trivial ?_)
  refine rn F ?_
  repeat' (first
    | with_reducible exact ⟨⟩
    | (refine vc_S (c1) rfl ?_; rintro ⟨s2, e2⟩ hq; refine rn F ?_)
    | (refine vspineT (id := 12) [[], [], [1], [1, 2], [1, 2, 3], [], [5], [1, 2, 3, 4, 5, 6], [1, 2, 3, 4, 5, 6, 7], [1, 2, 3, 4, 5, 6, 7], [0, 1, 2, 3, 4, 5, 6, 7, 8, 9], [0, 1, 2, 3, 4, 5, 6, 7, 8, 9, 10]] [0, 1, 2, 3, 4, 5, 6] [⟨[], [], 7, [0], [8, 9]⟩, ⟨[], [], 10, [], []⟩, ⟨[], [], 11, [], []⟩] (by kernel_rfl) (by kernel_rfl) (by kernel_rfl) ?_; refine rn F ?_))
  refine vc_sc (c := c) 0 1 2 (rkeep_w c s2 e2) rfl rfl rfl (by decide) (by decide) (by decide) rfl rfl ?_ (fun _ _ h => absurd h.1 (by decide)) (fun _ _ h => absurd h.1 (by decide))
  rintro _ _ ⟨-, rfl, rfl⟩ B
  obtain ⟨k1, k2⟩ := keepS I hI hc.1 hq
  generalize (if e2 = 0 then s2 else c.s) = s' at *
  refine rn trivial ?_
  exact vpostG_gc ⟨132, 3, [(4, .ptr 3 0)], [scB ⟨s', c.tx, c.rd, c.dead⟩ 1 2, scT (Sc.tx ⟨s', c.tx, c.rd, c.dead⟩), scR (Sc.rd ⟨s', c.tx, c.rd, c.dead⟩), ⟨167, true, Rs.d (resR e2)⟩]⟩ (gc [0, 1, 2, 4]) ⟨⟨s', c.tx, c.rd, c.dead⟩, resR e2, _, rfl, rfl, .inl ⟨⟨⟨k1, Nat.le_succ_of_le hc.2.1, Nat.le_succ_of_le hc.2.2⟩, k2⟩, rfl⟩⟩
theorem rstep4_w (I : Lg → Prop) (hI : ∀ x y, Ev x y → I x → I y) (c : Sc) (n : Nat) (hn : n ≤ 2000) (hc : c.sm n) (t : Sp) (ht : t.kind = 4) : StepC I c n t := by
  refine vcalls_keepg (fn := Tryz.f87) Tryz.func87 rfl (by kernel_rfl) (by simp [Tryz.f87]) ?_
  obtain ⟨k, tx, pg, torn, cut, a⟩ := t
  dsimp only at ht
  subst ht
  have c1 := rscheck_w c.s hc.1
  (unfold Tryz.f87; refine rn trivial ?_)
  refine rn F ?_
  repeat' (first
    | with_reducible exact ⟨⟩
    | (refine vc_S (c1) rfl ?_; rintro ⟨s2, n2, e2⟩ hq; refine rn F ?_))
  refine vc_sc (c := c) 0 1 2 (rkeep_w c s2 e2) rfl rfl rfl (by decide) (by decide) (by decide) rfl rfl ?_ (fun _ _ h => absurd h.1 (by decide)) (fun _ _ h => absurd h.1 (by decide))
  rintro _ _ ⟨-, rfl, rfl⟩ B
  obtain ⟨k1, k2⟩ := keepS I hI hc.1 hq
  generalize (if e2 = 0 then s2 else c.s) = s' at *
  refine rn trivial ?_
  exact vpostG_gc ⟨132, 3, [(4, .ptr 3 0)], [scB ⟨s', c.tx, c.rd, c.dead⟩ 1 2, scT (Sc.tx ⟨s', c.tx, c.rd, c.dead⟩), scR (Sc.rd ⟨s', c.tx, c.rd, c.dead⟩), ⟨167, true, Rs.d (resR e2)⟩]⟩ (gc [0, 1, 2, 4]) ⟨⟨s', c.tx, c.rd, c.dead⟩, resR e2, _, rfl, rfl, .inl ⟨⟨⟨k1, Nat.le_succ_of_le hc.2.1, Nat.le_succ_of_le hc.2.2⟩, k2⟩, rfl⟩⟩
theorem rstep7_w (I : Lg → Prop) (hI : ∀ x y, Ev x y → I x → I y) (c : Sc) (n : Nat) (hn : n ≤ 2000) (hc : c.sm n) (t : Sp) (ht : t.kind = 7) : StepC I c n t := by
  refine vcalls_keepg (fn := Tryz.f87) Tryz.func87 rfl (by kernel_rfl) (by simp [Tryz.f87]) ?_
  obtain ⟨k, tx, pg, torn, cut, a⟩ := t
  dsimp only at ht
  subst ht
  have c1 := rwork_w c.s hc.1
  (unfold Tryz.f87; refine rn trivial ?_)
  refine rn F ?_
  repeat' (first
    | with_reducible exact ⟨⟩
    | (refine vc_S (c1) rfl ?_; rintro ⟨s2, n2, e2⟩ hq; refine rn F ?_))
  refine vc_sc (c := c) 0 1 2 (rkeep_w c s2 e2) rfl rfl rfl (by decide) (by decide) (by decide) rfl rfl ?_ (fun _ _ h => absurd h.1 (by decide)) (fun _ _ h => absurd h.1 (by decide))
  rintro _ _ ⟨-, rfl, rfl⟩ B
  obtain ⟨k1, k2⟩ := keepS I hI hc.1 hq
  generalize (if e2 = 0 then s2 else c.s) = s' at *
  refine rn trivial ?_
  exact vpostG_gc ⟨132, 3, [(4, .ptr 3 0)], [scB ⟨s', c.tx, c.rd, c.dead⟩ 1 2, scT (Sc.tx ⟨s', c.tx, c.rd, c.dead⟩), scR (Sc.rd ⟨s', c.tx, c.rd, c.dead⟩), ⟨167, true, Rs.d (resR e2)⟩]⟩ (gc [0, 1, 2, 4]) ⟨⟨s', c.tx, c.rd, c.dead⟩, resR e2, _, rfl, rfl, .inl ⟨⟨⟨k1, Nat.le_succ_of_le hc.2.1, Nat.le_succ_of_le hc.2.2⟩, k2⟩, rfl⟩⟩
theorem rstep5_w (I : Lg → Prop) (hI : ∀ x y, Ev x y → I x → I y) (c : Sc) (n : Nat) (hn : n ≤ 2000) (hc : c.sm n) (t : Sp) (ht : t.kind = 5) : StepC I c n t := by
  refine vcalls_keepg (fn := Tryz.f87) Tryz.func87 rfl (by kernel_rfl) (by simp [Tryz.f87]) ?_
  obtain ⟨k, tx, pg, torn, cut, a⟩ := t
  dsimp only at ht
  subst ht
  have c1 := rlLast_v c.s.k.lg (Nat.le_trans hc.1.1.1 (by decide))
  have c2 := rforce_v c.s.k.lg (Nat.le_trans hc.1.1.1 (by decide)) (lastS c.s.k.lg)
  have c3 := fun e => rresult_v e
  (unfold Tryz.f87; refine rn trivial ?_)
  refine rn F ?_
  repeat' (first
    | with_reducible exact ⟨⟩
    | (refine sB F ?_ ?_ <;> intro hZ)
    | refine vp F (c1) ?_
    | refine vp F (c2) ?_
    | refine vp F (c3 _) ?_
    | (refine vspineT (id := 17) [[], [0], [0, 1], [0, 1, 2], [0, 1, 2, 3], [0, 1, 2, 3, 4], [], [6], [6, 7], [6, 7, 8], [6, 7, 8, 9], [6, 7, 8, 9, 10], [6, 7, 8, 9, 10, 11], [0, 1, 2, 3, 4, 5, 6, 7, 8, 9, 10, 11, 12], [0, 1, 2, 3, 4, 5, 6, 7, 8, 9, 10, 11, 12, 13], [0, 1, 2, 3, 4, 5, 6, 7, 8, 9, 10, 11, 12, 13, 14], [0, 1, 2, 3, 4, 5, 6, 7, 8, 9, 10, 11, 12, 13, 14], [], [0, 1, 2, 3, 4, 5, 6, 7, 8, 9, 10, 11, 12, 13, 14, 15, 17], [0, 1, 2, 3, 4, 5, 6, 7, 8, 9, 10, 11, 12, 13, 14, 15, 16, 17, 18]] [0, 1, 2, 3, 4, 5, 6, 7, 8, 9, 10, 11] [⟨[17], [], 12, [0, 1, 2, 3, 4, 5], []⟩, ⟨[17], [], 13, [], [14, 15, 16]⟩, ⟨[17], [17], 18, [16], []⟩, ⟨[], [], 19, [], []⟩] (by kernel_rfl) (by kernel_rfl) (by kernel_rfl) ?_; refine rn F ?_))
  · exact vpostG_gc ⟨132, 3, [(4, .ptr 3 0)], [scB ⟨⟨⟨c.s.k.pg, c.s.k.nx, (forceS c.s.k.lg (lastS c.s.k.lg)).1, c.s.k.pl, c.s.k.lk, c.s.k.tx, c.s.k.ix, c.s.k.la⟩, c.s.v⟩, c.tx, c.rd, c.dead⟩ 1 2, scT (Sc.tx ⟨⟨⟨c.s.k.pg, c.s.k.nx, (forceS c.s.k.lg (lastS c.s.k.lg)).1, c.s.k.pl, c.s.k.lk, c.s.k.tx, c.s.k.ix, c.s.k.la⟩, c.s.v⟩, c.tx, c.rd, c.dead⟩), scR (Sc.rd ⟨⟨⟨c.s.k.pg, c.s.k.nx, (forceS c.s.k.lg (lastS c.s.k.lg)).1, c.s.k.pl, c.s.k.lk, c.s.k.tx, c.s.k.ix, c.s.k.la⟩, c.s.v⟩, c.tx, c.rd, c.dead⟩), ⟨167, true, Rs.d (resR _)⟩]⟩ (gc [0, 1, 2, 4]) ⟨⟨⟨⟨c.s.k.pg, c.s.k.nx, (forceS c.s.k.lg (lastS c.s.k.lg)).1, c.s.k.pl, c.s.k.lk, c.s.k.tx, c.s.k.ix, c.s.k.la⟩, c.s.v⟩, c.tx, c.rd, c.dead⟩, resR _, _, rfl, rfl, .inl ⟨⟨⟨⟨⟨forceS_len _ _ hc.1.1.1, hc.1.1.2⟩, hc.1.2⟩, Nat.le_succ_of_le hc.2.1, Nat.le_succ_of_le hc.2.2⟩, hI _ _ (forceS_ev (by assumption))⟩, rfl⟩⟩
  · exact vpostG_gc ⟨132, 3, [(4, .ptr 3 0)], [scB c 1 2, scT (Sc.tx c), scR (Sc.rd c), ⟨167, true, Rs.d (resR _)⟩]⟩ (gc [0, 1, 2, 4]) ⟨c, resR _, _, rfl, rfl, .inl ⟨scI_same I c n hc _, rfl⟩⟩
theorem rstep2_w (I : Lg → Prop) (hI : ∀ x y, Ev x y → I x → I y) (c : Sc) (n : Nat) (hn : n ≤ 2000) (hc : c.sm n) (t : Sp) (ht : t.kind = 2) : StepC I c n t := by
  refine vcalls_keepg (fn := Tryz.f87) Tryz.func87 rfl (by kernel_rfl) (by simp [Tryz.f87]) ?_
  obtain ⟨k, tx, pg, torn, cut, a⟩ := t
  dsimp only at ht
  subst ht
  (unfold Tryz.f87; refine rn trivial ?_)
  refine vc_sc (c := c) 0 1 2 (ract_w c n hn hc ⟨2, tx, pg, torn, cut, a⟩) rfl rfl rfl (by decide) (by decide) (by decide) rfl rfl ?_ (fun _ _ h => absurd rfl h.1) ?_
  · rintro c1 r1 ⟨-, q1, -, q2⟩ B
    refine rn trivial ?_
    exact vpostG_gc ⟨132, 3, [(4, .ptr 3 0)], [scB c1 1 2, scT (Sc.tx c1), scR (Sc.rd c1), ⟨167, true, Rs.d (r1)⟩]⟩ (gc [0, 1, 2, 4]) ⟨c1, r1, _, rfl, rfl, .inl ⟨⟨q1, hI _ _ q2⟩, rfl⟩⟩
  · rintro c1 r1 ⟨-, q1, -, q2⟩ B
    refine rn trivial ?_
    exact vpostG_gc ⟨132, 3, [(4, .ptr 4 0)], [scB c1 1 3, scT c1.tx, deadO, scR c1.rd, ⟨167, true, r1.d⟩]⟩ (gc [0, 1, 2, 5, 4]) ⟨c1, r1, _, rfl, rfl, .inr (.inr ⟨⟨q1, hI _ _ q2⟩, rfl⟩)⟩
theorem rstep1_w (I : Lg → Prop) (hI : ∀ x y, Ev x y → I x → I y) (c : Sc) (n : Nat) (hn : n ≤ 2000) (hc : c.sm n) (t : Sp) (ht : t.kind = 1) : StepC I c n t := by
  refine vcalls_keepg (fn := Tryz.f87) Tryz.func87 rfl (by kernel_rfl) (by simp [Tryz.f87]) ?_
  obtain ⟨k, tx, pg, torn, cut, a⟩ := t
  dsimp only at ht
  subst ht
  have c1 := rsbegin_w c.s hc.1
  (unfold Tryz.f87; refine rn trivial ?_)
  have hb : (c.tx.length + 1) * 8 ≤ 140737488355328 := by have := hc.2.1; omega
  have F := @hb
  refine rn F ?_
  repeat' (first
    | with_reducible exact ⟨⟩
    | (refine sB F ?_ ?_ <;> intro hZ)
    | (refine vc_S (c1) rfl ?_; rintro ⟨s2, n2, e2⟩ hq; refine rn F ?_))
  rotate_left
  · refine vc_sc (c := c) 0 1 2 (rkeep_w c s2 e2) rfl rfl rfl (by decide) (by decide) (by decide) rfl rfl ?_ (fun _ _ h => absurd h.1 (by decide)) (fun _ _ h => absurd h.1 (by decide))
    rintro _ _ ⟨-, rfl, rfl⟩ B
    obtain ⟨k1, k2⟩ := keepS I hI hc.1 hq
    generalize (if e2 = 0 then s2 else c.s) = s' at *
    refine rn trivial ?_
    exact vpostG_gc ⟨132, 3, [(4, .ptr 3 0)], [scB ⟨s', c.tx, c.rd, c.dead⟩ 1 2, scT (Sc.tx ⟨s', c.tx, c.rd, c.dead⟩), scR (Sc.rd ⟨s', c.tx, c.rd, c.dead⟩), ⟨167, true, Rs.d ({ resR e2 with tx := n2 })⟩]⟩ (gc [0, 1, 2, 4]) ⟨⟨s', c.tx, c.rd, c.dead⟩, { resR e2 with tx := n2 }, _, rfl, rfl, .inl ⟨⟨⟨k1, Nat.le_succ_of_le hc.2.1, Nat.le_succ_of_le hc.2.2⟩, k2⟩, rfl⟩⟩
  have hl : (c.tx ++ [n2]).length = c.tx.length + 1 := by simp
  generalize c.tx ++ [n2] = l at *
  rw [← hl]
  refine vc_sc (c := ⟨c.s, l, c.rd, c.dead⟩) 0 7 2 (rkeep_w ⟨c.s, l, c.rd, c.dead⟩ s2 e2) rfl rfl rfl (by decide) (by decide) (by decide) rfl rfl ?_ (fun _ _ h => absurd h.1 (by decide)) (fun _ _ h => absurd h.1 (by decide))
  rintro _ _ ⟨-, rfl, rfl⟩ B
  obtain ⟨k1, k2⟩ := keepS I hI hc.1 hq
  generalize (if e2 = 0 then s2 else c.s) = s' at *
  have h1 := hc.2.1
  refine rn trivial ?_
  exact vpostG_gc ⟨132, 3, [(4, .ptr 4 0)], [scB ⟨s', l, c.rd, c.dead⟩ 3 2, deadI, scR c.rd, scT l, ⟨167, true, Rs.d { resR e2 with tx := n2 }⟩]⟩ (gc [0, 1, 2, 7, 4]) ⟨⟨s', l, c.rd, c.dead⟩, { resR e2 with tx := n2 }, _, rfl, rfl, .inr (.inl ⟨⟨⟨k1, by dsimp only; omega, Nat.le_succ_of_le hc.2.2⟩, k2⟩, rfl⟩)⟩
end
section
attribute [local go_sem] iteLe
theorem rstepO_w (I : Lg → Prop) (c : Sc) (n : Nat) (hc : c.sm n) (t : Sp) (h1 : t.kind ≠ 1) (h2 : t.kind ≠ 2) (h3 : t.kind ≠ 3) (h4 : t.kind ≠ 4) (h5 : t.kind ≠ 5) (h6 : t.kind ≠ 6) (h7 : t.kind ≠ 7) : StepC I c n t := by
  refine vcalls_keepg (fn := Tryz.f87) Tryz.func87 rfl (by kernel_rfl) (by simp [Tryz.f87]) ?_
  have c1 := failed_v 1
  (unfold Tryz.f87; refine rn (And.intro @h1 (And.intro @h2 (And.intro @h3 (And.intro @h4 (And.intro @h5 (And.intro @h6 @h7)))))) ?_)
  have F := (And.intro @h1 (And.intro @h2 (And.intro @h3 (And.intro @h4 (And.intro @h5 (And.intro @h6 @h7))))))
  refine rn F ?_
  repeat' (first
    | with_reducible exact ⟨⟩
    | refine vp F (c1) ?_)
  exact vpostG_gc ⟨132, 3, [(4, .ptr 3 0)], [scB c 1 2, scT (Sc.tx c), scR (Sc.rd c), ⟨167, true, Rs.d (failR 1)⟩]⟩ (gc [0, 1, 2, 4]) ⟨c, failR 1, _, rfl, rfl, .inl ⟨scI_same I c n hc _, rfl⟩⟩
theorem rstepA_w (I : Lg → Prop) (hI : ∀ x y, Ev x y → I x → I y) (c : Sc) (n : Nat) (hn : n ≤ 2000) (hc : c.sm n) (t : Sp) (h6 : t.kind = 6 → StepC I c n t) : StepC I c n t := by
  by_cases q1 : t.kind = 1
  · exact rstep1_w I hI c n hn hc t q1
  by_cases q2 : t.kind = 2
  · exact rstep2_w I hI c n hn hc t q2
  by_cases q3 : t.kind = 3
  · exact rstep3_w I hI c n hn hc t q3
  by_cases q4 : t.kind = 4
  · exact rstep4_w I hI c n hn hc t q4
  by_cases q5 : t.kind = 5
  · exact rstep5_w I hI c n hn hc t q5
  by_cases q6 : t.kind = 6
  · exact h6 q6
  by_cases q7 : t.kind = 7
  · exact rstep7_w I hI c n hn hc t q7
  exact rstepO_w I c n hc t q1 q2 q3 q4 q5 q6 q7
def encV : Enc Sp := ⟨9, fun t => [.lit (.int .i64 t.kind), .lit (.int .i64 t.tx), .lit (.int .i64 t.pg), .lit (.int .i64 t.torn), .lit (.int .i64 t.cut), .lit (.int .i64 t.a.kind), .lit (.int .i64 t.a.pg), .lit (.int .i64 t.a.sl), .str t.a.data], by decide, fun _ => rfl⟩
theorem lenV (l : List Sp) : (cells encV l).length = l.length * 9 := cells_len encV l
theorem allV (l : List Sp) (n : Nat) (h : l.length * 9 ≤ n) : (cells encV l).take n = cells encV l := by rw [List.take_of_length_le]; rw [lenV]; exact h
theorem frzV {n : Nat} {hp : Heap} {len : Nat} {l : List Sp} (h : l.length = len) : frzC n hp 0 9 len (some (cells encV l)) = some (.sl (fz encV l)) := frzC_cells encV h
def Sp0 : Sp := ⟨0, 0, 0, 0, 0, 0, 0, 0, []⟩
theorem fzV_at (l : List Sp) (i : Nat) (h : i < l.length) : (fz encV l)[i]? = some [.lit (.int .i64 (l.getD i Sp0).kind), .lit (.int .i64 (l.getD i Sp0).tx), .lit (.int .i64 (l.getD i Sp0).pg), .lit (.int .i64 (l.getD i Sp0).torn), .lit (.int .i64 (l.getD i Sp0).cut), .lit (.int .i64 (l.getD i Sp0).a.kind), .lit (.int .i64 (l.getD i Sp0).a.pg), .lit (.int .i64 (l.getD i Sp0).a.sl), .str (l.getD i Sp0).a.data] := fz_getD encV l Sp0 i h
attribute [go_sem] lenV allV frzV
def encU2 : Enc Rs := ⟨6, fun r => [.lit (.int .i64 r.st), .lit (.int .i64 r.tx), .lit (.int .i64 r.pg), .lit (.bool r.cell.set), .str r.cell.data, .lit (.int .i64 r.er)], by decide, fun _ => rfl⟩
theorem lenU2 (l : List Rs) : (cells encU2 l).length = l.length * 6 := cells_len encU2 l
theorem allU2 (l : List Rs) (n : Nat) (h : l.length * 6 ≤ n) : (cells encU2 l).take n = cells encU2 l := by rw [List.take_of_length_le]; rw [lenU2]; exact h
theorem frzU2 {n : Nat} {hp : Heap} {len : Nat} {l : List Rs} (h : l.length = len) : frzC n hp 0 6 len (some (cells encU2 l)) = some (.sl (fz encU2 l)) := frzC_cells encU2 h
theorem app_U2 (l : List Rs) (a b c : Int) (x : Bool) (s : List UInt8) (d : Int) : cells encU2 l ++ [.pv (.lit (.int .i64 a)), .pv (.lit (.int .i64 b)), .pv (.lit (.int .i64 c)), .pv (.lit (.bool x)), .pv (.str s), .pv (.lit (.int .i64 d))] = cells encU2 (l ++ [⟨a, b, c, ⟨x, s⟩, d⟩]) := by rw [cells_app]; rfl
attribute [go_sem] lenU2 allU2 frzU2 app_U2
theorem wk_O (l : List Rd) : DV.wk.go (cells encO l) = cells encO l := wk_cells encO l fun a p hp => by
  simp [encO] at hp
  rcases hp with h | h | h | h | h | h <;> subst h <;> rfl
theorem wk_U2 (l : List Rs) : DV.wk.go (cells encU2 l) = cells encU2 l := wk_cells encU2 l fun a p hp => by
  simp [encU2] at hp
  rcases hp with h | h | h | h | h | h <;> subst h <;> rfl
attribute [go_sem] wk_O wk_U2
structure Ru (I : Lg → Prop) (s : Sv) (l : List Sp) where
  i : Nat
  c : Sc
  out : List Rs
  hi : i ≤ l.length
  h1 : i ≤ 1000
  hc : c.sm i
  ho : out.length = i
  hI : I s.k.lg → I c.s.k.lg
@[go_sem] def runD (a : Sv × List Rs × List Rd) : DV := .tup [.agg a.1.d, .pv (.sl (fz encU2 a.2.1)), .pv (.sl (fz encO a.2.2))]
theorem rrun_w (I : Lg → Prop) (hI : ∀ x y, Ev x y → I x → I y) (s : Sv) (hs : s.sm) (l : List Sp) (h6 : ∀ i, i < l.length → (l.getD i Sp0).kind = 6 → ∀ c n, n ≤ 2000 → c.sm n → StepC I c n (l.getD i Sp0)) : VCalls prog 75 [.agg s.d, .pv (.sl (fz encV l))] [] (RetS runD fun a => a.1.sm ∧ (I s.k.lg → I a.1.k.lg)) := by
  refine dk Tryz.func75 ?_
  (unfold Tryz.f75; refine rn trivial ?_)
  refine VLoop.nilOwnC 2 18 3 1 rfl rfl ?_
  refine VLoop.nilOwnC 2 19 194 6 rfl rfl ?_
  refine VLoop.nilOwn 8 167 6 rfl ?_
  refine rn trivial ?_
  refine vloopW (fun r : Ru I s l => ⟨48, 0, [(9, .int .i64 r.i), (8, .own 4 6 0 r.out.length), (7, .ptr 1 0), (4, .ptr 0 0), (1, .pv (.sl (fz encV l)))], [⟨128, true, Zv⟩, scB r.c 2 3, scT r.c.tx, scR r.c.rd, ⟨167, true, cells encU2 r.out⟩]⟩) (fun r => l.length - r.i) ⟨0, ⟨s, [], [], false⟩, [], Nat.zero_le _, by decide, ⟨hs, Nat.zero_le _, Nat.zero_le _⟩, rfl, id⟩ (gc [1, 2, 3, 4, 5]) ?_
  rintro ⟨i, c, out, hi, h1, hc, ho, h⟩
  dsimp only
  unfold Zv
  have hg := fun h : i < l.length => fzV_at l i h
  have hb : (out.length + 1) * 72 ≤ 140737488355328 := by omega
  obtain ⟨sv, tx, rd, dead⟩ := c
  cases dead
  rotate_left
  · skip
    have F := @hg
    refine rn F ?_
    repeat' (first
      | with_reducible exact ⟨⟩
      | (refine sG F ?_ ?_ <;> intro hZ)
      | (refine vspineT (id := 7) [[], [0], [0, 1], [0, 1, 2], [], [], [5], [5, 6], [5, 6, 7], [0, 1, 2, 3], [0, 1, 2, 3, 4, 9], [0, 1, 2, 3, 4, 5, 6, 7, 8, 9, 10]] [0, 1, 2, 3, 4, 5, 6, 7, 8] [⟨[], [], 9, [4, 5, 6, 7, 8], []⟩, ⟨[], [], 10, [5, 6, 7, 8], []⟩, ⟨[], [], 11, [], []⟩] (by kernel_rfl) (by kernel_rfl) (by kernel_rfl) ?_; refine rn F ?_))
    all_goals exact ⟨rfl, rfl, (sv, out, rd), rfl, hc.1, h⟩
  have F := @hg
  refine rn F ?_
  repeat' (first
    | with_reducible exact ⟨⟩
    | (refine sG F ?_ ?_ <;> intro hZ)
    | (refine vspineT (id := 7) [[], [0], [0, 1], [0, 1, 2], [], [], [5], [5, 6], [5, 6, 7], [0, 1, 2, 3], [0, 1, 2, 3, 4, 9], [0, 1, 2, 3, 4, 5, 6, 7, 8, 9, 10]] [0, 1, 2, 3, 4, 5, 6, 7, 8] [⟨[], [], 9, [4, 5, 6, 7, 8], []⟩, ⟨[], [], 10, [5, 6, 7, 8], []⟩, ⟨[], [], 11, [], []⟩] (by kernel_rfl) (by kernel_rfl) (by kernel_rfl) ?_; refine rn F ?_))
  all_goals first | exact ⟨rfl, rfl, (sv, out, rd), rfl, hc.1, h⟩ | skip
  have hil : i < l.length := by omega
  refine vc_sc (c := ⟨sv, tx, rd, false⟩) 1 2 3 (rstepA_w I hI _ i (by omega) hc (l.getD i Sp0) (fun hk => h6 i hil hk _ i (by omega) hc)) rfl rfl rfl (by decide) (by decide) (by decide) rfl rfl ?_ ?_ ?_
  all_goals
    rintro c1 r1 ⟨q1, q2⟩ B
    refine rn @hb ?_
    have hl2 : (out ++ [r1]).length = out.length + 1 := by simp
    refine ⟨⟨i + 1, c1, out ++ [r1], hil, by omega, q1, by rw [hl2]; omega, fun x => q2 (h x)⟩, by dsimp only; omega, ?_⟩
    dsimp only
    rw [hl2]
  · exact (gc [0, 1, 2, 3, 7])
  · exact (gc [0, 1, 5, 3, 8])
  · exact (gc [0, 1, 2, 5, 8])
end
section
attribute [local go_sem] cb cc
theorem kinds_get (i : Nat) (h : i < 12) : ∃ n : Int, ([.pv (.lit (.int .i64 1)), .pv (.lit (.int .i64 1)), .pv (.lit (.int .i64 2)), .pv (.lit (.int .i64 2)), .pv (.lit (.int .i64 2)), .pv (.lit (.int .i64 3)), .pv (.lit (.int .i64 4)), .pv (.lit (.int .i64 5)), .pv (.lit (.int .i64 6)), .pv (.lit (.int .i64 7)), .pv (.lit (.int .i64 2)), .pv (.lit (.int .i64 4))] : List DV)[i]? = some (.int .i64 n) := by
  have e : ([.pv (.lit (.int .i64 1)), .pv (.lit (.int .i64 1)), .pv (.lit (.int .i64 2)), .pv (.lit (.int .i64 2)), .pv (.lit (.int .i64 2)), .pv (.lit (.int .i64 3)), .pv (.lit (.int .i64 4)), .pv (.lit (.int .i64 5)), .pv (.lit (.int .i64 6)), .pv (.lit (.int .i64 7)), .pv (.lit (.int .i64 2)), .pv (.lit (.int .i64 4))] : List DV) = ([1, 1, 2, 2, 2, 3, 4, 5, 6, 7, 2, 4] : List Int).map (DV.int .i64) := rfl
  refine ⟨([1, 1, 2, 2, 2, 3, 4, 5, 6, 7, 2, 4] : List Int)[i]'h, ?_⟩
  rw [e, List.getElem?_map, List.getElem?_eq_getElem h]; rfl
theorem action_v (c : C) (m : Nat) (h1 : 1 ≤ m) (h2 : m ≤ 1000) : VCalls prog 105 [.ptr 0 0, .int .i64 m] [cb c] (CX fun r => ∃ a : Ac, r = .agg a.d) := by
  refine dd Tryz.func105 ?_
  (unfold Tryz.f105; refine rn trivial ?_)
  refine vc_cx (k := 0) (c := c) (next_v c 12 (by omega) (by omega)) rfl rfl ?_
  rintro _ c1 ⟨y, rfl, hy⟩
  obtain ⟨n, hn⟩ := kinds_get y hy
  have F := @hn
  refine rn F ?_
  repeat' (first
    | with_reducible exact ⟨⟩
    | (refine sB F ?_ ?_ <;> intro hZ)
    | (refine vc_cx (k := 0) (next_v _ 2 (by omega) (by omega)) rfl rfl ?_; rintro _ _ ⟨_, rfl, _⟩; refine rn F ?_)
    | (refine vc_cx (k := 0) (next_v _ 40 (by omega) (by omega)) rfl rfl ?_; rintro _ _ ⟨_, rfl, _⟩; refine rn F ?_)
    | (refine vc_cx (k := 0) (next_v _ m (by omega) (by omega)) rfl rfl ?_; rintro _ _ ⟨_, rfl, _⟩; refine rn F ?_)
    | (refine vc_cx (k := 0) (data_v _) rfl rfl ?_; rintro _ _ ⟨_, rfl, _⟩; refine rn F ?_)
    | (refine vc_cx (k := 0) (int_v _) rfl rfl ?_; rintro _ _ ⟨_, rfl, _⟩; refine rn F ?_))
  all_goals first
    | exact ⟨_, rfl, rfl, cc_nums _, rfl, ⟨⟨_, _, _, _⟩, rfl⟩, _, rfl⟩
    | skip
end
section
attribute [local go_sem] cb cc
theorem rdnew0 (n : Int) (h : 1 ≤ n ∧ n ≤ 64) : VCalls prog 86 [.int .i64 n] [] (RetS dvD fun a => dvQ a ∧ a.2 = 0) := by
  refine dk Tryz.func86 ?_
  have c1 := rblanks_w n
  (unfold Tryz.f86; refine rn trivial ?_)
  refine rn F ?_
  repeat' (first
    | with_reducible exact ⟨⟩
    | (refine vc_S (c1 (by omega)) rfl ?_; rintro l hl; refine rn F ?_))
  all_goals first
    | (exfalso; omega)
    | exact ⟨rfl, rfl, (⟨l, 0, false⟩, 0), rfl, hl, rfl⟩
    | skip
theorem rknew0 (n m : Int) (h : 1 ≤ n ∧ n ≤ 64) (h2 : 1 ≤ m ∧ m ≤ 64) : VCalls prog 85 [.int .i64 n, .int .i64 m] [] (RetS kiD fun a => a.1.sm ∧ a.2 = 0 ∧ a.1.lg = Lg1) := by
  refine dk Tryz.func85 ?_
  have c1 := rpnew_v m
  have c2 := rixnew_w n
  have c3 := rlnew_v
  have hf := plNew_fs m
  generalize plNew m = p at *
  (unfold Tryz.f85; refine rn trivial ?_)
  refine rn F ?_
  repeat' (first
    | with_reducible exact ⟨⟩
    | refine vp F (c1) ?_
    | (refine vc_S (c2) rfl ?_; rintro ⟨l, e⟩ hl; refine rn F ?_)
    | refine vp F (c3) ?_
    | (refine vspine (id := 5) [0, 2, 3] [⟨[], [], 1, [0, 2, 3], [4]⟩, ⟨[], [], 5, [], []⟩, ⟨[], [], 6, [], []⟩] (by kernel_rfl) (by kernel_rfl) ?_; refine rn F ?_))
  all_goals first
    | (exfalso; omega)
    | exact ⟨rfl, rfl, (⟨n, 1, Lg1, p.1, Lk0, [], l, []⟩, 0), rfl, ⟨Nat.zero_le _, by dsimp only; rw [hf]; exact Nat.zero_le _, Nat.zero_le _, smN_nil _, hl, Nat.zero_le _⟩, rfl, rfl⟩
    | skip
theorem rsnew0 (n m : Int) (h : 1 ≤ n ∧ n ≤ 64) (h2 : 1 ≤ m ∧ m ≤ 64) : VCalls prog 74 [.int .i64 n, .int .i64 m] [] (RetS svD fun a => a.1.sm ∧ a.2 = 0 ∧ a.1.k.lg = Lg1) := by
  refine dk Tryz.func74 ?_
  have c1 := rknew0 n m h h2
  have c2 := rdnew0 n h
  (unfold Tryz.f74; refine rn trivial ?_)
  refine vc_S c1 rfl ?_
  rintro ⟨k, e⟩ ⟨hk, he, hg⟩
  dsimp only at hk he hg
  subst he
  refine rn trivial ?_
  refine vc_S c2 rfl ?_
  rintro ⟨v, e⟩ ⟨hv, he⟩
  dsimp only at he
  subst he
  refine rn trivial ?_
  exact ⟨rfl, rfl, (⟨k, v⟩, 0), rfl, ⟨hk, hv⟩, rfl, hg⟩
theorem app_V (l : List Sp) (a b c d e f g h : Int) (s : List UInt8) : cells encV l ++ [.pv (.lit (.int .i64 a)), .pv (.lit (.int .i64 b)), .pv (.lit (.int .i64 c)), .pv (.lit (.int .i64 d)), .pv (.lit (.int .i64 e)), .pv (.lit (.int .i64 f)), .pv (.lit (.int .i64 g)), .pv (.lit (.int .i64 h)), .pv (.str s)] = cells encV (l ++ [⟨a, b, c, d, e, ⟨f, g, h, s⟩⟩]) := by rw [cells_app]; rfl
def no6 (l : List Sp) : Prop := ∀ i, i < l.length → (l.getD i Sp0).kind ≠ 6
structure Sd (most : Nat) where
  k : Nat
  c : C
  l : List Sp
  hk : k + l.length ≤ most + 2
  h6 : no6 l
def spB : Sp := ⟨1, 0, 0, 0, 0, ⟨0, 0, 0, []⟩⟩
def LgI (x : Lg) : Prop := lgB x = true ∧ x.f = 1
end
theorem rlkvalidX (t : Lk) (h : 1024 < t.sum) (h2 : t.held.length ≤ 10000000 ∧ t.wait.length ≤ 10000000) : VCalls prog 178 [.agg t.d] [] (Ret (.bool false)) := by
  refine dd Tryz.func178 ?_
  unfold Lk.sum at h
  have h' : (1024 : Int) < t.held.length + t.wait.length := by omega
  (unfold Tryz.f178; refine rn @h' ?_; try with_reducible exact ⟨⟩)
def Kn.smX (k : Kn) : Prop := k.lg.es.length ≤ 4096 ∧ k.pl.fs.length ≤ 64 ∧ smN 65 k.tx ∧ k.ix.length ≤ 64 ∧ k.la.length ≤ 10000
theorem rpartsX (k : Kn) (hk : k.smX) (h : 1024 < k.lk.sum) (hq : k.lk.held.length ≤ 10000000 ∧ k.lk.wait.length ≤ 10000000) : VCalls prog 135 [.agg k.d] [] (Ret (.bool false)) := by
  refine dd Tryz.func135 ?_
  obtain ⟨h1, h2, h4, h5, h6⟩ := hk
  have c1 := rlvalid_v k.lg (by omega)
  have c2 := rplvalid_v k.pl (by omega)
  have c3 := rlkvalidX k.lk h hq
  generalize lgB k.lg = b1 at *
  generalize plB k.pl = b2 at *
  (unfold Tryz.f135; refine rn trivial ?_)
  refine rn F ?_
  repeat' (first
    | with_reducible exact ⟨⟩
    | (refine sG F ?_ ?_ <;> intro hZ)
    | refine vp F (c1) ?_
    | refine vp F (c2) ?_
    | refine vp F (c3) ?_)
  all_goals first | rfl | skip
theorem rkvalidX (k : Kn) (hk : k.smX) (h : 1024 < k.lk.sum) (hq : k.lk.held.length ≤ 10000000 ∧ k.lk.wait.length ≤ 10000000) : VCalls prog 114 [.agg k.d] [] (Ret (.bool false)) := by
  refine dd Tryz.func114 ?_
  have c1 := rpartsX k hk h hq
  (unfold Tryz.f114; refine rn trivial ?_)
  refine rn F ?_
  repeat' (first
    | with_reducible exact ⟨⟩
    | refine vp F (c1) ?_)
  all_goals first | rfl | skip
structure AdS (x : Lg) (n : Nat) where
  i : Nat
  k : Kn
  hi : i ≤ n
  hk : k.sm
  he : Ev x k.lg
theorem radopt_w (x : Lg) (hx : x.es.length ≤ 4096) (a : An) (ha : a.sm 10000) (n : Int) : VCalls prog 177 [.agg x.c, .agg a.d, .int .i64 n] [] (RetS kiD fun r => r.1.sm ∧ (r.2 = 0 → Ev x r.1.lg)) := by
  refine dk Tryz.func177 ?_
  obtain ⟨h1, h2, h3, h4⟩ := ha
  have c1 := rpnew_v n
  have hf := plNew_fs n
  generalize plNew n = p at *
  obtain ⟨p, e0⟩ := p
  dsimp only at c1 hf
  have err : ∀ z, z ≠ 0 → RetS kiD (fun r => r.1.sm ∧ (r.2 = 0 → Ev x r.1.lg)) (kiD (Kn0, z)) [] := fun z hz => ⟨rfl, rfl, (Kn0, z), rfl, Kn0_sm, fun h => absurd h hz⟩
  (unfold Tryz.f177; refine rn trivial ?_)
  refine rn F ?_
  repeat' (first
    | with_reducible exact ⟨⟩
    | (refine sB F ?_ ?_ <;> intro hZ)
    | refine vp F (c1) ?_)
  all_goals first | exact err 1 (by decide) | skip
  by_cases hs : a.lk.length ≤ 1024
  rotate_left
  · have c2 := rkvalidX ⟨a.pg, a.nx, x, p, ⟨a.lk, []⟩, a.lo, a.ix, a.la⟩ ⟨hx, by dsimp only; rw [hf]; exact Nat.zero_le _, h1, h4, h3⟩ (by unfold Lk.sum; simp; omega) ⟨by dsimp only; omega, Nat.zero_le _⟩
    refine rn F ?_
    refine VCalls.wkH ?_; simp only [hpwk_nil, hpwk_cons, wk_go_nil, wk_go_cons, DV.wk, PV.wk, wk_E]
    refine rn F ?_
    repeat' (first
      | with_reducible exact ⟨⟩
      | refine vp F (c2) ?_)
    exact err 15 (by decide)
  have hk0 : (⟨a.pg, a.nx, x, p, ⟨a.lk, []⟩, a.lo, a.ix, a.la⟩ : Kn).sm := ⟨hx, by dsimp only; rw [hf]; exact Nat.zero_le _, by unfold Lk.sum; simp; omega, h1, h4, h3⟩
  have c2 := rkvalid_w ⟨a.pg, a.nx, x, p, ⟨a.lk, []⟩, a.lo, a.ix, a.la⟩ hk0
  refine rn F ?_
  refine VCalls.wkH ?_; simp only [hpwk_nil, hpwk_cons, wk_go_nil, wk_go_cons, DV.wk, PV.wk, wk_E]
  refine rn F ?_
  repeat' (first
    | with_reducible exact ⟨⟩
    | (refine sB F ?_ ?_ <;> intro hZ)
    | (refine vc_S (c2) rfl ?_; rintro b hb; refine rn F ?_))
  all_goals first | exact err 15 (by decide) | skip
  have hlo := h1.1
  refine vloopW (fun s : AdS x a.lo.length => ⟨72, 0, [(11, .int .i64 s.i), (10, .ptr 4 0), (6, .ptr 2 0), (4, .ptr 1 0)], [⟨63, true, x.c⟩, ⟨284, true, a.d⟩, ⟨96, true, Kn.d Kn0⟩, ⟨86, true, p.d⟩, ⟨96, true, s.k.d⟩]⟩) (fun s => a.lo.length - s.i) ⟨0, _, Nat.zero_le _, hk0, Ev.refl _⟩ (gc [0, 1, 2, 3, 4]) ?_
  rintro ⟨i, k, hi, hk, he⟩
  dsimp only
  by_cases hil : i < a.lo.length
  rotate_left
  · skip
    refine rn F ?_
    exact ⟨rfl, rfl, (k, 0), rfl, hk, fun _ => he⟩
  have hg := fzT_g a.lo i hil
  generalize a.lo.getD i Tx0 = t at *
  have c3 := rkadd_w k hk ⟨0, 4, t.id, 0, 0, 0, Ch0, []⟩
  have F := @hg
  refine rn F ?_
  repeat' (first
    | with_reducible exact ⟨⟩
    | (refine sB F ?_ ?_ <;> intro hZ)
    | (refine vc_S (c3) rfl ?_; rintro ⟨k1, n1, e1⟩ hq; refine rn F ?_)
    | (refine vspine (id := 11) [0, 1, 2, 3, 4, 5, 6, 7] [⟨[], [], 8, [1, 2, 3, 4, 5, 6], [9, 10, 11, 12]⟩, ⟨[], [], 13, [11, 12], []⟩, ⟨[], [], 14, [], []⟩] (by kernel_rfl) (by kernel_rfl) ?_; refine rn F ?_))
  all_goals first
    | exact err _ (by assumption)
    | exact ⟨⟨i + 1, k, hil, hk, he⟩, by dsimp only; omega, (gc [0, 1, 2, 3, 4])⟩
    | exact ⟨⟨i + 1, k1, hil, hq.1, he.trans (addQ_ev hq (by assumption)).1⟩, by dsimp only; omega, (gc [0, 1, 2, 3, 4])⟩
    | skip
theorem openL_len (s : List UInt8) : (openL s).1.es.length ≤ 4096 := by
  unfold openL
  split
  · exact opn_len _ _ _ _
  · exact Nat.zero_le _
theorem ropen20_w (v : Dv) (hv : v.ps.length ≤ 64) (s : List UInt8) (hs : s.length ≤ 100000000) (n m : Int) : VCalls prog 134 [.agg v.d, .pv (.str s), .int .i64 n, .int .i64 m] [] (RetS svD fun r => r.1.sm ∧ (r.2 = 0 → (openL s).2 = 0 ∧ Ev (openL s).1 r.1.k.lg)) := by
  refine dk Tryz.func134 ?_
  have c1 := ropen_v s hs
  have hl := openL_len s
  generalize openL s = o at *
  obtain ⟨x, e0⟩ := o
  dsimp only at hl c1 ⊢
  have c2 := ranalyse_w x hl n
  have c3 := fun a ha => radopt_w x hl a ha m
  have err : ∀ z, z ≠ 0 → RetS svD (fun r => r.1.sm ∧ (r.2 = 0 → e0 = 0 ∧ Ev x r.1.k.lg)) (svD (Sv0, z)) [] := fun z hz => ⟨rfl, rfl, (Sv0, z), rfl, Sv0_sm, fun h => absurd h hz⟩
  (unfold Tryz.f134; refine rn trivial ?_)
  refine rn F ?_
  repeat' (first
    | with_reducible exact ⟨⟩
    | (refine sB F ?_ ?_ <;> intro hZ)
    | refine vp F (c1) ?_
    | (refine vc_S (c2) rfl ?_; rintro ⟨a, e1⟩ ha; refine rn F ?_)
    | (refine vc_S (c3 a ha) rfl ?_; rintro ⟨k, e2⟩ hk; refine rn F ?_))
  all_goals first
    | exact err _ (by assumption)
    | exact ⟨rfl, rfl, (⟨k, v⟩, 0), rfl, ⟨hk.1, hv⟩, fun _ => ⟨by assumption, hk.2 (by assumption)⟩⟩
    | skip
theorem ropen21_w (v : Dv) (hv : v.ps.length ≤ 64) (s : List UInt8) (hs : s.length ≤ 100000000) (n m : Int) : VCalls prog 113 [.agg v.d, .pv (.str s), .int .i64 n, .int .i64 m] [] (RetS svD fun r => r.1.sm ∧ (r.2 = 0 → (openL s).2 = 0 ∧ Ev (openL s).1 r.1.k.lg)) := by
  refine dk Tryz.func113 ?_
  have c1 := ropen20_w v hv s hs n m
  generalize openL s = o at *
  (unfold Tryz.f113; refine rn trivial ?_)
  refine rn F ?_
  repeat' (first
    | with_reducible exact ⟨⟩
    | (refine vc_S (c1) rfl ?_; rintro ⟨k, e⟩ hk; refine rn F ?_))
  all_goals first
    | exact ⟨rfl, rfl, (k, e), rfl, hk⟩
    | skip
section
attribute [local go_sem] iteLe
@[go_sem] def crD (a : Dv × Lg × Int) : DV := .tup [.agg a.1.d, .pv (.str (crashL a.2.1 a.2.2))]
def crQ (s : Sv) (a : Dv × Lg × Int) : Prop := a.1.ps.length ≤ 64 ∧ a.2.1.f = s.k.lg.f ∧ a.2.1.es = s.k.lg.es ∧ (lgB s.k.lg = true → lgB a.2.1 = true)
theorem rscrash_w (s : Sv) (hs : s.sm) (torn id cut : Int) : VCalls prog 112 [.agg s.d, .int .i64 torn, .int .i64 id, .int .i64 cut] [] (RetS crD (crQ s)) := by
  refine dk Tryz.func112 ?_
  have c1 := rpfind_v s.k.pl (Nat.le_trans hs.1.2.1 (by decide)) id
  have hl := hs.1.1
  have c2 := rcrash_v s.k.lg (by omega) torn
  have c3 := fun d => rcrash_v ⟨s.k.lg.f, s.k.lg.es, d⟩ (by dsimp only; omega) torn
  have h0 : crQ s (s.v, s.k.lg, torn) := ⟨hs.2, rfl, rfl, fun h => h⟩
  (unfold Tryz.f112; refine rn trivial ?_)
  refine rn F ?_
  repeat' (first
    | with_reducible exact ⟨⟩
    | (refine vspine (id := 1) [0, 1, 2, 3] [⟨[4, 5], [4], 6, [2, 3], []⟩, ⟨[5], [5], 7, [], []⟩] (by kernel_rfl) (by kernel_rfl) ?_; refine rn F ?_))
  refine vp hl c1 ?_
  rcases findS_cases s.k.pl id with hn | ⟨_, i, hi, hfi, _⟩
  · rw [hn]
    refine rn @hl ?_
    refine rn F ?_
    repeat' (first
      | with_reducible exact ⟨⟩
      | refine vp F (c2) ?_
      | (refine vspine (id := 9) [0, 1, 2, 3] [⟨[], [], 4, [0, 1], []⟩, ⟨[], [], 5, [1, 2, 3], []⟩, ⟨[], [], 6, [], []⟩] (by kernel_rfl) (by kernel_rfl) ?_; refine rn F ?_))
    exact ⟨rfl, rfl, (s.v, s.k.lg, torn), rfl, h0⟩
  · rw [hfi]
    have hg := fzF_at s.k.pl.fs i hi
    generalize s.k.pl.fs.getD i Fm0 = f at *
    have c4 := rpenc_w f.pg
    have c5 := rkforce_w s.k hs.1 f.pg.lsn
    refine rn @hg ?_
    have c6 := fun b (hb : b.length ≤ 256) => rtear_w s.v (Nat.le_trans hs.2 (by decide)) id b (Nat.le_trans hb (by decide)) cut
    have F := @hg
    refine rn F ?_
    repeat' (first
      | with_reducible exact ⟨⟩
      | (refine sB F ?_ ?_ <;> intro hZ)
      | refine vp F (c2) ?_
      | (refine vc_S (c4) rfl ?_; rintro ⟨b, e1⟩ hb; refine rn F ?_)
      | (refine vc_S (c5) rfl ?_; rintro d hd; refine rn F ?_)
      | (refine vc_S (c6 b hb) rfl ?_; rintro ⟨v2, e2⟩ hv; refine rn F ?_)
      | refine vp F (c3 d) ?_
      | (refine vspine (id := 5) [0, 1, 2, 3, 4, 5, 6, 7, 8] [⟨[], [], 9, [1, 2, 3, 4, 5, 6, 7], []⟩, ⟨[], [], 10, [], []⟩] (by kernel_rfl) (by kernel_rfl) ?_; refine rn F ?_)
      | (refine vspine (id := 9) [0, 1, 2, 3] [⟨[], [], 4, [0, 1], []⟩, ⟨[], [], 5, [1, 2, 3], []⟩, ⟨[], [], 6, [], []⟩] (by kernel_rfl) (by kernel_rfl) ?_; refine rn F ?_))
    all_goals first
      | exact ⟨rfl, rfl, (s.v, s.k.lg, torn), rfl, h0⟩
      | exact ⟨rfl, rfl, (v2, ⟨s.k.lg.f, s.k.lg.es, d⟩, torn), rfl, hv, rfl, rfl, hd⟩
      | exact ⟨rfl, rfl, (s.v, ⟨s.k.lg.f, s.k.lg.es, d⟩, torn), rfl, hs.2, rfl, rfl, hd⟩
      | skip
end
section
attribute [local go_sem] iteLe
theorem crash_lgI {x y : Lg} {t : Int} (hx : LgI x) (hf : y.f = x.f) (hv : lgB y = true) {z : Lg} (he : Ev (openL (crashL y t)).1 z) : LgI z := by
  obtain ⟨n, h1, h2, h3⟩ := crash_open hv t
  rw [h3] at he
  have hd := lgB_hd hv
  simp only [Lg.hd] at hd
  have hl : (y.es.take n).length = n := by rw [List.length_take]; omega
  refine ⟨he.ok (lgB_of (x := ⟨y.f, y.es.take n, y.f + n - 1⟩) ⟨hd.1, hd.2.1, by dsimp only; omega, by dsimp only; omega, by dsimp only; omega⟩ (show seqE y.f (y.es.take n) from seqE_take (lgB_seq hv) n)), he.f.trans (hf.trans hx.2)⟩
theorem crashL_le {x : Lg} (hx : x.es.length ≤ 4096) (t : Int) : (crashL x t).length ≤ 100000000 := by
  have h9 := headL_len x.f
  have h8 := durB_len x.es x.d
  have h7 := resB_len x.es x.d
  unfold crashL
  split
  · rw [List.length_append, List.length_append, List.length_take]
    omega
  · exact Nat.zero_le _
structure Tz (n : Nat) where
  i : Nat
  l : List Int
  hi : i ≤ n
  hl : l.length = n
def crI (c : Sc) (n m : Nat) (c' : Sc) (_ : Rs) : Prop := m = 0 ∧ c'.sm n ∧ (LgI c.s.k.lg → LgI c'.s.k.lg)
theorem rcrashS_w (c : Sc) (n : Nat) (hn : n ≤ 2000) (hc : c.sm n) (t : Sp) : VCalls prog 102 [.ptr 0 0, .agg t.d] [scB c 1 2, scT c.tx, scR c.rd] (ScEnd rsD (crI c n)) := by
  refine vcalls_keepg (fn := Tryz.f102) Tryz.func102 rfl (by kernel_rfl) (by simp [Tryz.f102]) ?_
  have c1 := rscrash_w c.s hc.1 t.torn t.pg t.cut
  (unfold Tryz.f102; refine rn trivial ?_)
  refine rn F ?_
  repeat' (first
    | with_reducible exact ⟨⟩
    | (refine vc_S (c1) rfl ?_; rintro ⟨v, y, tn⟩ hq; refine rn F ?_)
    | (refine vspineT (id := 1) [[], [0], [0, 1], [0, 1, 2], [], [4], [], [6], [], [8], [0, 1, 2, 3, 4, 5, 6, 7, 8, 9], [0, 1, 2, 3, 4, 5, 6, 7, 8, 9, 10], [0, 1, 2, 3, 4, 5, 6, 7, 8, 9, 10, 11], [0, 1, 2, 3, 4, 5, 6, 7, 8, 9, 10, 11], [], [0, 1, 2, 3, 4, 5, 6, 7, 8, 9, 10, 11, 12, 14], [0, 1, 2, 3, 4, 5, 6, 7, 8, 9, 10, 11, 12, 13, 14, 15]] [0, 1, 2, 3, 4, 5, 6, 7, 8, 9] [⟨[14], [], 10, [], [11, 12, 13]⟩, ⟨[14], [14], 15, [13], []⟩, ⟨[], [], 16, [], []⟩] (by kernel_rfl) (by kernel_rfl) (by kernel_rfl) ?_; refine rn F ?_)
    | (refine vspineT (id := 2) [[], [], [], [2], [2, 3], [2, 3, 4], [2, 3, 4, 5], [2, 3, 4, 5, 6], [], [8], [8, 9], [8, 9, 10], [8, 9, 10, 11], [8, 9, 10, 11, 12], [8, 9, 10, 11, 12, 13], [0, 1, 2, 3, 4, 5, 6, 7, 8, 9, 10, 11, 12, 13, 14], [0, 1, 2, 3, 4, 5, 6, 7, 8, 9, 10, 11, 12, 13, 14, 15], [0, 1, 2, 3, 4, 5, 6, 7, 8, 9, 10, 11, 12, 13, 14, 15, 16], [0, 1, 2, 3, 4, 5, 6, 7, 8, 9, 10, 11, 12, 13, 14, 15, 16], [], [0, 1, 2, 3, 4, 5, 6, 7, 8, 9, 10, 11, 12, 13, 14, 15, 16, 17, 19], [0, 1, 2, 3, 4, 5, 6, 7, 8, 9, 10, 11, 12, 13, 14, 15, 16, 17, 18, 19, 20]] [0, 1, 2, 3, 4, 5, 6, 7, 8, 9, 10, 11, 12, 13, 14] [⟨[19], [], 15, [], [16, 17, 18]⟩, ⟨[19], [19], 20, [18], []⟩, ⟨[], [], 21, [], []⟩] (by kernel_rfl) (by kernel_rfl) (by kernel_rfl) ?_; refine rn F ?_))
  obtain ⟨q1, q2, q3, q4⟩ := hq
  dsimp only at q1 q2 q3 q4
  have c2 := ropen21_w v q1 (crashL y tn) (crashL_le (by rw [q3]; exact hc.1.1.1) tn) c.s.k.pg c.s.k.pl.size
  have hI := fun (h : LgI c.s.k.lg) (z : Lg) (he : Ev (openL (crashL y tn)).1 z) => crash_lgI h q2 (q4 h.1) he
  generalize crashL y tn = str at *
  generalize openL str = o at *
  refine rn F ?_
  repeat' (first
    | with_reducible exact ⟨⟩
    | (refine vc_S (c2) rfl ?_; rintro ⟨s2, e⟩ hk; refine rn F ?_))
  obtain ⟨k1, k2⟩ := hk
  dsimp only at k1 k2
  refine vloopW (fun r : Tz c.tx.length => ⟨70, 3, [(9, .int .i64 r.i), (8, .int .i64 e), (7, .ptr 4 0), (4, .ptr 3 0), (0, .ptr 0 0)], [scB ⟨c.s, r.l, c.rd, c.dead⟩ 1 2, scT r.l, scR c.rd, ⟨167, true, [.int .i64 0, .int .i64 0, .int .i64 0, .bool false, .pv (.str []), .int .i64 0]⟩, ⟨128, true, s2.d⟩]⟩) (fun r => c.tx.length - r.i) ⟨0, c.tx, Nat.zero_le _, rfl⟩ (gc [0, 1, 2, 4, 6]) ?_
  rintro ⟨i, l, hi, hl⟩
  dsimp only
  have hsm : ∀ (z : Sv) (d : Bool), z.sm → (⟨z, l, c.rd, d⟩ : Sc).sm n := fun z d hz => ⟨hz, by dsimp only; rw [hl]; exact hc.2.1, hc.2.2⟩
  have htx := hc.2.1
  by_cases hil : i < c.tx.length
  · have hil2 : i < l.length := by omega
    have hset := cellsI_set l i 0
    have F := @hil2
    refine rn F ?_
    refine ⟨⟨i + 1, l.set i 0, hil, by rw [List.length_set]; exact hl⟩, by dsimp only; omega, ?_⟩
    dsimp only
    rw [List.length_set]
    exact (gc [0, 1, 2, 3, 4])
  have hil2 : ¬ i < l.length := by omega
  by_cases he : e = 0
  · subst he
    have c3 := rresult_v 0
    have F := trivial
    refine rn F ?_
    repeat' (first
      | with_reducible exact ⟨⟩
      | refine vp F (c3) ?_)
    exact vpostG_gc ⟨70, 3, [(4, .ptr 3 0)], [scB ⟨s2, l, c.rd, c.dead⟩ 1 2, scT l, scR c.rd, ⟨167, true, (resR 0).d⟩]⟩ (gc [0, 1, 2, 3]) ⟨⟨s2, l, c.rd, c.dead⟩, resR 0, _, rfl, rfl, .inl ⟨⟨rfl, hsm s2 _ k1, fun h => hI h _ (k2 rfl).2⟩, rfl⟩⟩
  · have c3 := rresult_v e
    have F := @he
    refine rn F ?_
    repeat' (first
      | with_reducible exact ⟨⟩
      | refine vp F (c3) ?_)
    exact vpostG_gc ⟨70, 3, [(4, .ptr 3 0)], [scB ⟨c.s, l, c.rd, true⟩ 1 2, scT l, scR c.rd, ⟨167, true, (resR e).d⟩]⟩ (gc [0, 1, 2, 3]) ⟨⟨c.s, l, c.rd, true⟩, resR e, _, rfl, rfl, .inl ⟨⟨rfl, hsm c.s _ hc.1, fun h => h⟩, rfl⟩⟩
theorem rstep6_w (c : Sc) (n : Nat) (hn : n ≤ 2000) (hc : c.sm n) (t : Sp) (ht : t.kind = 6) : StepC LgI c n t := by
  refine vcalls_keepg (fn := Tryz.f87) Tryz.func87 rfl (by kernel_rfl) (by simp [Tryz.f87]) ?_
  obtain ⟨k, tx, pg, torn, cut, a⟩ := t
  dsimp only at ht
  subst ht
  (unfold Tryz.f87; refine rn trivial ?_)
  refine vc_sc (c := c) 0 1 2 (rcrashS_w c n hn hc ⟨6, tx, pg, torn, cut, a⟩) rfl rfl rfl (by decide) (by decide) (by decide) rfl rfl ?_ (fun _ _ h => absurd h.1 (by decide)) (fun _ _ h => absurd h.1 (by decide))
  rintro c1 r1 ⟨-, q1, q2⟩ B
  refine rn trivial ?_
  exact vpostG_gc ⟨132, 3, [(4, .ptr 3 0)], [scB c1 1 2, scT (Sc.tx c1), scR (Sc.rd c1), ⟨167, true, Rs.d (r1)⟩]⟩ (gc [0, 1, 2, 4]) ⟨c1, r1, _, rfl, rfl, .inl ⟨⟨⟨q1.1, Nat.le_succ_of_le q1.2.1, Nat.le_succ_of_le q1.2.2⟩, q2⟩, rfl⟩⟩
end
section
attribute [local go_sem] cb cc
theorem step1_v (c : C) (m n : Nat) (h1 : 1 ≤ m) (h2 : m ≤ 1000) (h3 : 1 ≤ n) (h4 : n ≤ 1000) : VCalls prog 88 [.ptr 0 0, .int .i64 m, .int .i64 n, .bool true] [cb c] (CX fun r => ∃ t : Sp, r = .agg t.d) := by
  refine dd Tryz.func88 ?_
  (unfold Tryz.f88; refine rn trivial ?_)
  refine rn F ?_
  repeat' (first
    | with_reducible exact ⟨⟩
    | (refine sB F ?_ ?_ <;> intro hZ)
    | (refine vc_cx (k := 0) (next_v _ 16 (by omega) (by omega)) rfl rfl ?_; rintro _ _ ⟨_, rfl, _⟩; refine rn F ?_)
    | (refine vc_cx (k := 0) (next_v _ 4 (by omega) (by omega)) rfl rfl ?_; rintro _ _ ⟨_, rfl, _⟩; refine rn F ?_)
    | (refine vc_cx (k := 0) (next_v _ 90 (by omega) (by omega)) rfl rfl ?_; rintro _ _ ⟨_, rfl, _⟩; refine rn F ?_)
    | (refine vc_cx (k := 0) (next_v _ 257 (by omega) (by omega)) rfl rfl ?_; rintro _ _ ⟨_, rfl, _⟩; refine rn F ?_)
    | (refine vc_cx (k := 0) (next_v _ m (by omega) (by omega)) rfl rfl ?_; rintro _ _ ⟨_, rfl, _⟩; refine rn F ?_)
    | (refine vc_cx (k := 0) (next_v _ n (by omega) (by omega)) rfl rfl ?_; rintro _ _ ⟨_, rfl, _⟩; refine rn F ?_)
    | (refine vc_cx (k := 0) (next_i _ ((m : Int) + 1) (by omega) (by omega)) rfl rfl ?_; rintro _ _ ⟨_, rfl, _⟩; refine rn F ?_)
    | (refine vc_cx (k := 0) (action_v _ m h1 h2) rfl rfl ?_; rintro _ _ ⟨_, rfl, _⟩; refine rn F ?_))
  all_goals exact ⟨_, rfl, rfl, cc_nums _, rfl, ⟨⟨_, _, _, _, _, ⟨_, _, _, _⟩⟩, rfl⟩, _, rfl⟩
structure Sd1 (most : Nat) where
  k : Nat
  c : C
  l : List Sp
  hk : k + l.length ≤ most + 2
theorem sched1_v (c : C) (m most : Nat) (h1 : 1 ≤ m) (h2 : m ≤ 1000) (hm : most ≤ 1000) : VCalls prog 76 [.ptr 0 0, .int .i64 m, .int .i64 most, .bool true] [cb c] (CX fun r => ∃ l : List Sp, r = .pv (.sl (fz encV l)) ∧ l.length ≤ most + 2) := by
  refine dd Tryz.func76 ?_
  (unfold Tryz.f76; refine rn trivial ?_)
  refine vc_cx (k := 0) (c := c) (next_i c ((most : Int) + 1) (by omega) (by omega)) rfl rfl ?_
  rintro _ c1 ⟨k, rfl, hk⟩
  refine rn trivial ?_
  refine vloopW (fun s : Sd1 most => ⟨30, 1, [(10, .int .i64 s.k), (9, .own 1 9 0 s.l.length), (3, .bool true), (1, .int .i64 m), (0, .ptr 0 0)], [cb s.c, ⟨172, true, cells encV s.l⟩]⟩) (fun s => s.k) ⟨k, c1, [spB, spB], by simp; omega⟩ (gc [0, 1]) ?_
  rintro ⟨k, c2, l, hk⟩
  dsimp only
  have hb : (l.length + 1) * 80 ≤ 140737488355328 := by omega
  by_cases hc : 0 < k
  · obtain ⟨k, rfl⟩ : ∃ k' : Nat, k = k' + 1 := ⟨k - 1, by omega⟩
    have hkk : ((k + 1 : Nat) : Int) - 1 = k := by omega
    have F := (And.intro @hb @hkk)
    refine rn F ?_
    refine vc_cx (k := 0) (c := c2) (step1_v c2 m 5 h1 h2 (by omega) (by omega)) rfl rfl ?_
    rintro _ c3 ⟨t, rfl⟩
    have F := (And.intro @hb (And.intro @app_V @hkk))
    refine rn F ?_
    have hl2 : (l ++ [t]).length = l.length + 1 := by simp
    refine ⟨⟨k, c3, l ++ [t], by rw [hl2]; omega⟩, by dsimp only; omega, ?_⟩
    dsimp only
    rw [hl2]
    exact (gc [0, 3])
  · skip
    have F := @hb
    refine rn F ?_
    exact ⟨_, rfl, rfl, cc_nums _, rfl, ⟨l, rfl, by omega⟩, _, rfl⟩
theorem service1_v (c : C) (most : Nat) (hm : most ≤ 1000) : VCalls prog 59 [.ptr 0 0, .int .i64 most, .bool true] [cb c] (CX fun r => ∃ s : Sv, r = .agg s.d ∧ s.sm ∧ LgI s.k.lg) := by
  refine dd Tryz.func59 ?_
  (unfold Tryz.f59; refine rn trivial ?_)
  refine vc_cx (k := 0) (c := c) (next_v c 4 (by omega) (by omega)) rfl rfl ?_
  rintro _ c1 ⟨x, rfl, hx⟩
  obtain ⟨m, hm1, hm2⟩ : ∃ m : Nat, 1 + (x : Int) = m ∧ m ≤ 4 := ⟨1 + x, by omega, by omega⟩
  refine rn @hm1 ?_
  refine vc_cx (k := 0) (c := c1) (next_v c1 3 (by omega) (by omega)) rfl rfl ?_
  rintro _ c2 ⟨y, rfl, hy⟩
  refine rn trivial ?_
  refine vc_S (rsnew0 m (1 + y) (by omega) (by omega)) rfl ?_
  rintro ⟨s, e⟩ ⟨hs, he, hg⟩
  dsimp only at hs he hg
  subst he
  refine rn F ?_
  repeat' (first
    | with_reducible exact ⟨⟩
    | (refine vspine (id := 3) [0, 1, 2, 3, 4] [⟨[], [], 5, [0], []⟩, ⟨[], [], 6, [1, 2, 3, 4], [7, 8, 9, 10]⟩, ⟨[], [], 11, [9, 10], []⟩] (by kernel_rfl) (by kernel_rfl) ?_; refine rn F ?_))
  refine vc_cx (k := 0) (c := c2) (sched1_v c2 m most (by omega) (by omega) hm) rfl rfl ?_
  rintro _ c3 ⟨l, rfl, hl⟩
  have c9 := rrun_w LgI (fun x y h hx => ⟨h.ok hx.1, h.f.trans hx.2⟩) s hs l (fun i _ hk c n hn hc => rstep6_w c n hn hc _ hk)
  refine rn trivial ?_
  refine vc_S c9 rfl ?_
  rintro ⟨s1, out, rd⟩ ⟨q1, q2⟩
  refine rn trivial ?_
  exact ⟨_, rfl, rfl, cc_nums _, rfl, ⟨s1, rfl, q1, q2 (by rw [hg]; exact ⟨Lg1_ok, rfl⟩)⟩, _, rfl⟩
theorem kernel1_v (c : C) (most : Nat) (hm : most ≤ 1000) : VCalls prog 33 [.ptr 0 0, .int .i64 most, .bool true] [cb c] (CX fun r => ∃ k : Kn, r = .agg k.d ∧ k.sm ∧ LgI k.lg) := by
  refine dd Tryz.func33 ?_
  (unfold Tryz.f33; refine rn trivial ?_)
  refine vc_cx (k := 0) (c := c) (service1_v c most hm) rfl rfl ?_
  rintro _ c1 ⟨s, rfl, hs, hi⟩
  refine rn trivial ?_
  exact ⟨_, rfl, rfl, cc_nums _, rfl, ⟨s.k, rfl, hs.1, hi⟩, _, rfl⟩
end
section
attribute [local go_sem] cb cc
structure DLg (x : Lg) : Prop where
  ok : lgB x = true
  len : x.es.length ≤ 4096
  end_ : x.f + x.es.length ≤ 4097
theorem DLg.lsn {x : Lg} (h : DLg x) (i : Nat) (hi : i < x.es.length) : 1 ≤ (x.es.getD i E0).lsn ∧ (x.es.getD i E0).lsn ≤ 1000000000 := by
  have h1 := lgB_seq h.ok i hi
  have h2 := lgB_hd h.ok
  simp only [Lg.hd] at h2
  have h3 := h.end_
  rw [h1.1]
  omega
end
structure Rq where
  fr : Int
  to : Int
  lo : Int
  hi : Int
  lv : Int
  es : List E
def Rq.c (r : Rq) : List DV := [.int .i64 r.fr, .int .i64 r.to, .int .i64 r.lo, .int .i64 r.hi, .int .i64 r.lv, .pv (.sl (fz encE r.es))]
def Rq0 : Rq := ⟨0, 0, 0, 0, 0, []⟩
def numB (fr to lo hi lv : Int) : Bool := decide (1 ≤ fr) && decide (fr ≤ to) && decide (to ≤ 1099511627776) && decide (0 ≤ lo) && decide (lo ≤ hi) && decide (hi < 64) && decide (0 ≤ lv) && decide (lv ≤ 8)
def chB (e : E) : Bool := e.kind == 1 || e.kind == 2
def inR (r : Rq) (e : E) : Bool := chB e && decide (r.lo ≤ e.c.pg) && decide (e.c.pg ≤ r.hi) && decide (r.fr ≤ e.lsn) && decide (e.lsn ≤ r.to)
def runC (r : Rq) (i : Nat) : Bool := (r.es.getD i E0).okB && inR r (r.es.getD i E0) &&
  (if i = 0 ∨ (r.es.getD (i - 1) E0).c.pg < (r.es.getD i E0).c.pg then decide ((r.es.getD i E0).ppg < r.fr)
   else decide ((r.es.getD (i - 1) E0).c.pg = (r.es.getD i E0).c.pg) && decide ((r.es.getD (i - 1) E0).lsn < (r.es.getD i E0).lsn) && decide ((r.es.getD i E0).ppg = (r.es.getD (i - 1) E0).lsn))
def runB (r : Rq) : Bool := numB r.fr r.to r.lo r.hi r.lv && decide (r.es.length ≤ 4096) && (List.range r.es.length).all (runC r)
def aft (a b : E) : Prop := a.c.pg < b.c.pg ∨ (a.c.pg = b.c.pg ∧ a.lsn < b.lsn ∧ b.ppg = a.lsn)
structure Run (r : Rq) : Prop where
  hd : 1 ≤ r.fr ∧ r.fr ≤ r.to ∧ r.to ≤ 1099511627776 ∧ 0 ≤ r.lo ∧ r.lo ≤ r.hi ∧ r.hi < 64 ∧ 0 ≤ r.lv ∧ r.lv ≤ 8
  len : r.es.length ≤ 4096
  ok : ∀ e ∈ r.es, e.okB = true ∧ chB e = true ∧ r.lo ≤ e.c.pg ∧ e.c.pg ≤ r.hi ∧ r.fr ≤ e.lsn ∧ e.lsn ≤ r.to
  asc : ∀ i, i + 1 < r.es.length → aft (r.es.getD i E0) (r.es.getD (i + 1) E0)
theorem runB_run {r : Rq} (h : runB r = true) : Run r := by
  unfold runB numB at h
  simp only [Bool.and_eq_true, decide_eq_true_eq, List.all_eq_true, List.mem_range] at h
  obtain ⟨⟨h1, h2⟩, h3⟩ := h
  refine ⟨by omega, h2, fun e he => ?_, fun i hi => ?_⟩
  · obtain ⟨i, hi, rfl⟩ := List.getElem_of_mem he
    have := h3 i hi
    unfold runC inR at this
    rw [getD_eq _ _ hi] at this
    simp only [Bool.and_eq_true, decide_eq_true_eq] at this
    obtain ⟨⟨a, ⟨⟨⟨b, c⟩, d⟩, f⟩, g⟩, _⟩ := this
    exact ⟨a, b, c, d, f, g⟩
  · have := h3 (i + 1) hi
    unfold runC at this
    rw [Nat.add_sub_cancel] at this
    simp only [Bool.and_eq_true] at this
    have h4 := this.2
    unfold aft
    split at h4
    · rename_i hc
      rcases hc with hc | hc
      · omega
      · exact .inl hc
    · simp only [Bool.and_eq_true, decide_eq_true_eq] at h4
      exact .inr ⟨h4.1.1, h4.1.2, h4.2⟩
theorem run_pw {r : Rq} (h : Run r) : r.es.Pairwise fun a b => a.c.pg ≤ b.c.pg := by
  have key : ∀ (n : Nat) (i : Nat), i + n < r.es.length → (r.es.getD i E0).c.pg ≤ (r.es.getD (i + n) E0).c.pg := by
    intro n
    induction n with
    | zero => intro i _; exact Int.le_refl _
    | succ n ih =>
      intro i hi
      have h1 := ih i (by omega)
      have h2 := h.asc (i + n) (by omega)
      rw [show i + (n + 1) = i + n + 1 by omega]
      rcases h2 with h2 | h2
      · omega
      · omega
  rw [List.pairwise_iff_getElem]
  intro i j hi hj hij
  have := key (j - i) i (by omega)
  rw [show i + (j - i) = j by omega, getD_eq _ _ hi, getD_eq _ _ hj] at this
  exact this
def gadd : List (List E) → E → List (List E)
  | [], e => [[e]]
  | [g], e => if (g.getLastD E0).c.pg = e.c.pg then [g ++ [e]] else [g, [e]]
  | g :: h :: t, e => g :: gadd (h :: t) e
def grps (es : List E) : List (List E) := es.foldl gadd []
def pgG (g : List E) : Int := (g.headD E0).c.pg
def gOk : List (List E) → Prop
  | [] => True
  | g :: t => g ≠ [] ∧ (∀ e ∈ g, e.c.pg = pgG g) ∧ (∀ h ∈ t, pgG g < pgG h) ∧ gOk t
theorem gadd_flat : ∀ (gs : List (List E)) (e : E), (gadd gs e).flatten = gs.flatten ++ [e]
  | [], e => rfl
  | [g], e => by unfold gadd; split <;> simp
  | g :: h :: t, e => by unfold gadd; rw [List.flatten_cons, gadd_flat (h :: t) e, List.flatten_cons (l := g), List.append_assoc]
theorem pgG_app {g : List E} (h : g ≠ []) (e : E) : pgG (g ++ [e]) = pgG g := by
  cases g with
  | nil => exact absurd rfl h
  | cons a r => rfl
theorem getLastD_mem {g : List E} (h : g ≠ []) (d : E) : g.getLastD d ∈ g := by
  rw [List.getLastD_eq_getLast?, List.getLast?_eq_some_getLast h]
  exact List.getLast_mem h
theorem gadd_ok : ∀ (gs : List (List E)) (e : E), gOk gs → (∀ g ∈ gs, pgG g ≤ e.c.pg) → gOk (gadd gs e) ∧ ∀ g ∈ gadd gs e, pgG g ≤ e.c.pg ∧ (∀ p, (∀ h ∈ gs, p < pgG h) → p < e.c.pg → p < pgG g)
  | [], e, _, _ => by
    refine ⟨⟨by simp, fun x hx => ?_, fun h hh => (by simp at hh), trivial⟩, fun g hg => ?_⟩
    · simp at hx; subst hx; rfl
    · simp [gadd] at hg; subst hg; exact ⟨Int.le_refl _, fun p _ h => h⟩
  | [g], e, hk, hl => by
    obtain ⟨h1, h2, h3, _⟩ := hk
    have hg := hl g (by simp)
    have hlast : (g.getLastD E0).c.pg = pgG g := h2 _ (getLastD_mem h1 E0)
    unfold gadd
    rw [hlast]
    split
    · rename_i hc
      refine ⟨⟨by simp, fun x hx => ?_, fun h hh => (by simp at hh), trivial⟩, fun x hx => ?_⟩
      · rw [pgG_app h1]
        rcases List.mem_append.1 hx with h | h
        · exact h2 x h
        · simp at h; subst h; exact hc.symm
      · simp at hx; subst hx; rw [pgG_app h1]; exact ⟨hg, fun p hp _ => hp g (by simp)⟩
    · rename_i hc
      refine ⟨⟨h1, h2, fun h hh => ?_, ⟨by simp, fun x hx => ?_, fun h hh => (by simp at hh), trivial⟩⟩, fun x hx => ?_⟩
      · simp at hh; subst hh; show pgG g < e.c.pg; omega
      · simp at hx; subst hx; rfl
      · simp at hx
        rcases hx with rfl | rfl
        · exact ⟨hg, fun p hp _ => hp _ (by simp)⟩
        · exact ⟨Int.le_refl _, fun p _ h => h⟩
  | g :: h :: t, e, hk, hl => by
    obtain ⟨h1, h2, h3, h4⟩ := hk
    obtain ⟨i1, i2⟩ := gadd_ok (h :: t) e h4 fun x hx => hl x (List.mem_cons_of_mem _ hx)
    have hge : pgG g < e.c.pg := Int.lt_of_lt_of_le (h3 h (by simp)) (hl h (by simp))
    unfold gadd
    refine ⟨⟨h1, h2, fun x hx => (i2 x hx).2 _ h3 hge, i1⟩, fun x hx => ?_⟩
    rcases List.mem_cons.1 hx with rfl | hx
    · exact ⟨hl _ (by simp), fun p hp _ => hp _ (by simp)⟩
    · exact ⟨(i2 x hx).1, fun p hp h => (i2 x hx).2 p (fun y hy => hp y (List.mem_cons_of_mem _ hy)) h⟩
theorem fold_ok : ∀ (es : List E) (gs : List (List E)), gOk gs → (∀ g ∈ gs, ∀ e ∈ es, pgG g ≤ e.c.pg) → es.Pairwise (fun a b => a.c.pg ≤ b.c.pg) → gOk (es.foldl gadd gs) ∧ (es.foldl gadd gs).flatten = gs.flatten ++ es
  | [], gs, h, _, _ => ⟨h, by simp⟩
  | e :: r, gs, h, hl, hp => by
    rw [List.pairwise_cons] at hp
    obtain ⟨a1, a2⟩ := gadd_ok gs e h fun g hg => hl g hg e (by simp)
    obtain ⟨b1, b2⟩ := fold_ok r (gadd gs e) a1 (fun g hg x hx => Int.le_trans (a2 g hg).1 (hp.1 x hx)) hp.2
    exact ⟨b1, by rw [List.foldl_cons, b2, gadd_flat, List.append_assoc]; rfl⟩
theorem grps_ok {es : List E} (h : es.Pairwise fun a b => a.c.pg ≤ b.c.pg) : gOk (grps es) ∧ (grps es).flatten = es := by
  have := fold_ok es [] trivial (fun g hg => by simp at hg) h
  exact ⟨this.1, by rw [grps, this.2]; rfl⟩
theorem grps_succ (es : List E) (i : Nat) (h : i < es.length) : grps (es.take (i + 1)) = gadd (grps (es.take i)) (es.getD i E0) := by
  unfold grps
  rw [List.take_succ_eq_append_getElem h, List.foldl_append, getD_eq _ _ h]
  rfl
def sel (es : List E) (p : Int) : List E := es.filter fun e => decide (e.c.pg = p)
theorem sel_g : ∀ {gs : List (List E)}, gOk gs → ∀ g ∈ gs, sel gs.flatten (pgG g) = g
  | [], _, g, hg => by simp at hg
  | a :: t, hk, g, hg => by
    obtain ⟨h1, h2, h3, h4⟩ := hk
    have hself : sel a (pgG a) = a := List.filter_eq_self.2 fun e he => decide_eq_true (h2 e he)
    have hmem : ∀ {gs : List (List E)}, gOk gs → ∀ h ∈ gs, ∀ e ∈ h, e.c.pg = pgG h := by
      intro gs
      induction gs with
      | nil => intro _ h hh; simp at hh
      | cons b s ih =>
        intro hk h hh
        rcases List.mem_cons.1 hh with rfl | hh
        · exact hk.2.1
        · exact ih hk.2.2.2 h hh
    rw [List.flatten_cons]
    unfold sel
    rw [List.filter_append]
    rcases List.mem_cons.1 hg with rfl | hg
    · rw [show List.filter (fun e => decide (e.c.pg = pgG g)) g = g from hself, List.filter_eq_nil_iff.2, List.append_nil]
      intro e he
      obtain ⟨h, hh, hx⟩ := List.mem_flatten.1 he
      have := h3 h hh
      have := hmem h4 h hh e hx
      simp; omega
    · rw [List.filter_eq_nil_iff.2, List.nil_append]
      · exact sel_g h4 g hg
      · intro e he
        have := h3 g hg
        have := h2 e he
        simp; omega
theorem sel_no {gs : List (List E)} (hk : gOk gs) {p : Int} (h : ∀ g ∈ gs, pgG g ≠ p) : sel gs.flatten p = [] := by
  induction gs with
  | nil => rfl
  | cons a t ih =>
    obtain ⟨h1, h2, h3, h4⟩ := hk
    rw [List.flatten_cons]
    unfold sel
    rw [List.filter_append, show List.filter _ t.flatten = [] from ih h4 fun g hg => h g (List.mem_cons_of_mem _ hg), List.append_nil, List.filter_eq_nil_iff]
    intro e he
    have := h2 e he
    have := h a (by simp)
    simp; omega
structure Ro where
  pg : Int
  ct : Int
  f : Int
  l : Int
  a : Int
  sz : Int
def Ro0 : Ro := ⟨0, 0, 0, 0, 0, 0⟩
def szG (g : List E) : Nat := (g.flatMap frE).length
theorem szG_app (g h : List E) : szG (g ++ h) = szG g + szG h := by unfold szG; rw [List.flatMap_append, List.length_append]
theorem szG_one (e : E) : szG [e] = (frE e).length := by unfold szG; simp
def roG (a : Int) (g : List E) : Ro := ⟨pgG g, g.length, (g.headD E0).lsn, (g.getLastD E0).lsn, a, szG g⟩
def rosG : Int → List (List E) → List Ro
  | _, [] => []
  | a, g :: t => roG a g :: rosG (a + szG g) t
theorem rosG_len : ∀ (a : Int) (gs : List (List E)), (rosG a gs).length = gs.length
  | _, [] => rfl
  | a, g :: t => by unfold rosG; rw [List.length_cons, List.length_cons, rosG_len]
theorem rosG_at : ∀ (gs : List (List E)) (a : Int) (i : Nat), i < gs.length → (rosG a gs).getD i Ro0 = roG (a + szG (gs.take i).flatten) (gs.getD i [])
  | [], _, i, h => by simp at h
  | g :: t, a, 0, _ => by unfold rosG; simp [szG]
  | g :: t, a, i + 1, h => by
    unfold rosG
    rw [List.getD_cons_succ, rosG_at t _ i (by simpa using h), List.take_succ_cons, List.flatten_cons, szG_app, List.getD_cons_succ]
    congr 1
    omega
theorem flat_last {h : List E} {t : List (List E)} (hk : gOk (h :: t)) (g : List E) : ((g :: h :: t).flatten.getLastD E0) = ((h :: t).flatten.getLastD E0) := by
  rw [List.flatten_cons]
  have hne : (h :: t).flatten ≠ [] := by
    rw [List.flatten_cons]
    intro e
    exact hk.1 (List.append_eq_nil_iff.1 e).1
  simp only [List.getLastD_eq_getLast?, List.getLast?_append, List.getLast?_eq_some_getLast hne, Option.some_or]
theorem rosG_new : ∀ (gs : List (List E)) (a : Int) (e : E), gOk gs → (gs = [] ∨ (gs.flatten.getLastD E0).c.pg ≠ e.c.pg) → rosG a (gadd gs e) = rosG a gs ++ [⟨e.c.pg, 1, e.lsn, e.lsn, a + szG gs.flatten, szG [e]⟩]
  | [], a, e, _, _ => by simp [gadd, rosG, roG, pgG, szG]
  | [g], a, e, hk, h => by
    have h2 : (g.getLastD E0).c.pg ≠ e.c.pg := by
      rcases h with h | h
      · simp at h
      · simpa using h
    unfold gadd
    rw [if_neg h2]
    simp [rosG, roG, pgG]
  | g :: h :: t, a, e, hk, hl => by
    have h2 : ((h :: t).flatten.getLastD E0).c.pg ≠ e.c.pg := by
      rcases hl with hl | hl
      · simp at hl
      · rwa [flat_last hk.2.2.2] at hl
    have ih := rosG_new (h :: t) (a + szG g) e hk.2.2.2 (.inr h2)
    unfold gadd
    rw [show rosG a (g :: gadd (h :: t) e) = roG a g :: rosG (a + szG g) (gadd (h :: t) e) from rfl, ih, show rosG a (g :: h :: t) = roG a g :: rosG (a + szG g) (h :: t) from rfl, List.cons_append, List.flatten_cons (l := g), szG_app]
    congr 4
    omega
theorem rosG_old : ∀ (gs : List (List E)) (a : Int) (e : E), gOk gs → gs ≠ [] → (gs.flatten.getLastD E0).c.pg = e.c.pg → ∃ init z, rosG a gs = init ++ [z] ∧ init.length + 1 = gs.length ∧ rosG a (gadd gs e) = init ++ [⟨z.pg, z.ct + 1, z.f, e.lsn, z.a, z.sz + (szG [e] : Nat)⟩]
  | [], a, e, _, h, _ => absurd rfl h
  | [g], a, e, hk, _, h => by
    have h2 : (g.getLastD E0).c.pg = e.c.pg := by simpa using h
    refine ⟨[], roG a g, rfl, rfl, ?_⟩
    unfold gadd
    rw [if_pos h2]
    have h3 : (g ++ [e]).getLastD E0 = e := by rw [List.getLastD_eq_getLast?, List.getLast?_append]; rfl
    have h4 : (g ++ [e]).headD E0 = g.headD E0 := by
      cases g with
      | nil => exact absurd rfl hk.1
      | cons x r => rfl
    simp only [rosG, roG, List.nil_append, pgG_app hk.1, szG_app, h3, h4, List.length_append, List.length_cons, List.length_nil]
    simp
  | g :: h :: t, a, e, hk, _, hl => by
    rw [flat_last hk.2.2.2] at hl
    obtain ⟨init, z, i1, i2, i3⟩ := rosG_old (h :: t) (a + szG g) e hk.2.2.2 (by simp) hl
    refine ⟨roG a g :: init, z, ?_, by rw [List.length_cons, List.length_cons, i2], ?_⟩
    · rw [show rosG a (g :: h :: t) = roG a g :: rosG (a + szG g) (h :: t) from rfl, i1]; rfl
    · unfold gadd
      rw [show rosG a (g :: gadd (h :: t) e) = roG a g :: rosG (a + szG g) (gadd (h :: t) e) from rfl, i3]; rfl
def headB (r : Rq) : List UInt8 := putL (putL (putL (putL (putL (putL [80, 77, 82, 78] r.fr 8) r.to 8) r.lo 4) r.hi 4) r.lv 1) r.es.length 4
theorem headB_len (r : Rq) : (headB r).length = 33 := by unfold headB; simp only [putL_len]; rfl
def headR (r : Rq) : List UInt8 := frm (headB r)
theorem headR_len (r : Rq) : (headR r).length = 41 := by unfold headR; rw [frm_len (by rw [headB_len]; omega), headB_len]
def bysR (r : Rq) : List UInt8 := headR r ++ r.es.flatMap frE
theorem bysR_len (r : Rq) : (bysR r).length = 41 + szG r.es := by unfold bysR szG; rw [List.length_append, headR_len]
theorem frE_ge {e : E} (h : e.okB = true) : 8 ≤ (frE e).length := by rw [frE_ok h, frm_len (encBy_len h)]; omega
theorem ch_blob {e : E} (h : e.okB = true) (hc : chB e = true) : e.blob = [] := by
  unfold E.okB at h
  simp only [Bool.and_eq_true] at h
  have h2 := h.2
  unfold chB at hc
  simp only [Bool.or_eq_true, beq_iff_eq] at hc
  unfold E.kindB at h2
  rcases hc with hc | hc <;> rw [hc] at h2 <;> simp at h2
  · exact h2.1.2
  · exact h2.1.1.1.2
theorem frE_ch {e : E} (h : e.okB = true) (hc : chB e = true) : (frE e).length ≤ 100 := by
  obtain ⟨l1, l2, l3⟩ := okB_lens h
  have n1 := cellBy_len (headBy e) e.c.b
  have n2 := cellBy_len (cellBy (headBy e) e.c.b) e.c.a
  rw [headBy_len] at n1
  have hb := ch_blob h hc
  rw [frE_ok h, frm_len (encBy_len h)]
  unfold encBy
  rw [List.length_append, putL_len, hb]
  simp only [List.length_nil]
  omega
theorem szG_le : ∀ (g : List E), (∀ e ∈ g, e.okB = true ∧ chB e = true) → szG g ≤ 100 * g.length ∧ 8 * g.length ≤ szG g
  | [], _ => by simp [szG]
  | e :: r, h => by
    have ih := szG_le r fun x hx => h x (List.mem_cons_of_mem _ hx)
    have h1 := h e (by simp)
    have h2 := frE_ge h1.1
    have h3 := frE_ch h1.1 h1.2
    rw [show e :: r = [e] ++ r from rfl, szG_app, szG_one, List.length_append]
    simp only [List.length_cons, List.length_nil]
    omega
structure Ix where
  fr : Int
  to : Int
  lo : Int
  hi : Int
  lv : Int
  fil : Int
  ro : List Ro
def fBit (p : Int) : Int := IntKind.u64.wrap (1 * 2 ^ min p.toNat 64)
def filS (l : List Ro) : Int := l.foldl (fun f r => bits .or .u64 f (fBit r.pg)) 0
theorem filS_snoc (l : List Ro) (z : Ro) : filS (l ++ [z]) = bits .or .u64 (filS l) (fBit z.pg) := by unfold filS; rw [List.foldl_append]; rfl
def rosR (r : Rq) : List Ro := rosG 41 (grps r.es)
def idx (r : Rq) : Ix := ⟨r.fr, r.to, r.lo, r.hi, r.lv, filS (rosR r), rosR r⟩
theorem frames_find : ∀ (es : List E) (k : Nat), k < (es.flatMap frE).length → ∃ j, j < es.length ∧ ((es.take j).flatMap frE).length ≤ k ∧ k < ((es.take (j + 1)).flatMap frE).length
  | [], k, h => by simp at h
  | e :: r, k, h => by
    rw [List.flatMap_cons, List.length_append] at h
    by_cases hc : k < (frE e).length
    · exact ⟨0, by simp, by simp, by simpa using hc⟩
    · obtain ⟨j, h1, h2, h3⟩ := frames_find r (k - (frE e).length) (by omega)
      refine ⟨j + 1, by rw [List.length_cons]; omega, ?_, ?_⟩
      · rw [List.take_succ_cons, List.flatMap_cons, List.length_append]; omega
      · rw [List.take_succ_cons, List.flatMap_cons, List.length_append]; omega
theorem set_app3 (p a r : List UInt8) (k : Nat) (h : k < a.length) (y : UInt8) : (p ++ (a ++ r)).set (p.length + k) y = p ++ (a.set k y ++ r) := by
  rw [List.set_append_right _ _ (by omega), Nat.add_sub_cancel_left, List.set_append_left _ _ h]
theorem getD_app3 (p a r : List UInt8) (k : Nat) (h : k < a.length) : (p ++ (a ++ r)).getD (p.length + k) 0 = a.getD k 0 := by
  rw [List.getD_eq_getElem?_getD, List.getElem?_append_right (by omega), Nat.add_sub_cancel_left, List.getElem?_append_left h, ← List.getD_eq_getElem?_getD]
theorem flat_at {α : Type} : ∀ (gs : List (List α)) (i : Nat), i < gs.length → gs.flatten = (gs.take i).flatten ++ (gs.getD i [] ++ (gs.drop (i + 1)).flatten)
  | [], i, h => by simp at h
  | g :: t, 0, _ => by simp
  | g :: t, i + 1, h => by
    rw [List.flatten_cons, flat_at t i (by simpa using h), List.take_succ_cons, List.flatten_cons, List.getD_cons_succ, List.drop_succ_cons, List.append_assoc]
theorem gOk_at : ∀ {gs : List (List E)}, gOk gs → ∀ i, i < gs.length → gs.getD i [] ≠ [] ∧ (∀ e ∈ gs.getD i [], e.c.pg = pgG (gs.getD i [])) ∧ ∀ j, i < j → j < gs.length → pgG (gs.getD i []) < pgG (gs.getD j [])
  | [], _, i, h => by simp at h
  | g :: t, hk, 0, _ => by
    refine ⟨hk.1, hk.2.1, fun j h1 h2 => ?_⟩
    obtain ⟨m, rfl⟩ : ∃ m, j = m + 1 := ⟨j - 1, by omega⟩
    rw [List.getD_cons_succ]
    have hm : m < t.length := by simpa using h2
    rw [getD_eq t m hm]
    exact hk.2.2.1 _ (List.getElem_mem hm)
  | g :: t, hk, i + 1, h => by
    have hi : i < t.length := by simpa using h
    obtain ⟨h1, h2, h3⟩ := gOk_at hk.2.2.2 i hi
    rw [List.getD_cons_succ]
    refine ⟨h1, h2, fun j a b => ?_⟩
    obtain ⟨m, rfl⟩ : ∃ m, j = m + 1 := ⟨j - 1, by omega⟩
    rw [List.getD_cons_succ]
    exact h3 m (by omega) (by simpa using b)
structure Grp (r : Rq) (g : List E) : Prop where
  ne : g ≠ []
  pg : ∀ e ∈ g, e.c.pg = pgG g
  ok : ∀ e ∈ g, e.okB = true ∧ chB e = true ∧ r.lo ≤ e.c.pg ∧ e.c.pg ≤ r.hi ∧ r.fr ≤ e.lsn ∧ e.lsn ≤ r.to
  ch : ∀ j, j + 1 < g.length → (g.getD j E0).lsn < (g.getD (j + 1) E0).lsn ∧ (g.getD (j + 1) E0).ppg = (g.getD j E0).lsn
  len : g.length ≤ 4096
  sel : sel r.es (pgG g) = g
theorem getD_mid {α : Type} (p g q : List α) (j : Nat) (h : j < g.length) (d : α) : (p ++ (g ++ q)).getD (p.length + j) d = g.getD j d := by
  rw [List.getD_eq_getElem?_getD, List.getElem?_append_right (by omega), Nat.add_sub_cancel_left, List.getElem?_append_left h, ← List.getD_eq_getElem?_getD]
theorem run_grps {r : Rq} (h : Run r) : gOk (grps r.es) ∧ (grps r.es).flatten = r.es := grps_ok (run_pw h)
theorem run_grp {r : Rq} (h : Run r) (i : Nat) (hi : i < (grps r.es).length) : Grp r ((grps r.es).getD i []) := by
  obtain ⟨hk, hf⟩ := run_grps h
  obtain ⟨h1, h2, _⟩ := gOk_at hk i hi
  have hs := sel_g hk ((grps r.es).getD i []) (by rw [getD_eq _ _ hi]; exact List.getElem_mem hi)
  have e := flat_at (grps r.es) i hi
  rw [hf] at e hs
  generalize (grps r.es).getD i [] = g at *
  generalize ((grps r.es).take i).flatten = p at *
  generalize ((grps r.es).drop (i + 1)).flatten = q at *
  have hl : r.es.length = p.length + (g.length + q.length) := by rw [e]; simp
  have hlen := h.len
  refine ⟨h1, h2, fun x hx => h.ok x (by rw [e]; simp [hx]), fun j hj => ?_, by omega, hs⟩
  have ha := h.asc (p.length + j) (by omega)
  rw [e, Nat.add_assoc, getD_mid _ _ _ _ (by omega), getD_mid _ _ _ _ hj] at ha
  have p1 := h2 (g.getD j E0) (by rw [getD_eq _ _ (show j < g.length by omega)]; exact List.getElem_mem _)
  have p2 := h2 (g.getD (j + 1) E0) (by rw [getD_eq _ _ hj]; exact List.getElem_mem _)
  rcases ha with ha | ha
  · omega
  · exact ha.2
theorem Grp.lsn {r : Rq} {g : List E} (h : Grp r g) : ∀ (j : Nat), j < g.length → (g.headD E0).lsn ≤ (g.getD j E0).lsn
  | 0, hj => by
    cases g with
    | nil => simp at hj
    | cons a t => exact Int.le_refl _
  | j + 1, hj => by
    have := h.lsn j (by omega)
    have := (h.ch j hj).1
    omega
theorem Grp.last {r : Rq} {g : List E} (h : Grp r g) : g.getLastD E0 = g.getD (g.length - 1) E0 := by
  have := List.length_pos_iff.2 h.ne
  rw [List.getLastD_eq_getLast?, List.getLast?_eq_getElem?, List.getD_eq_getElem?_getD]
theorem Grp.hmem {r : Rq} {g : List E} (h : Grp r g) : g.headD E0 ∈ g := by
  obtain ⟨x, t, rfl⟩ := List.exists_cons_of_ne_nil h.ne
  simp
theorem Grp.row {r : Rq} {g : List E} (h : Grp r g) : r.lo ≤ pgG g ∧ pgG g ≤ r.hi ∧ 1 ≤ g.length ∧ g.length ≤ 4096 ∧ r.fr ≤ (g.headD E0).lsn ∧ (g.headD E0).lsn ≤ (g.getLastD E0).lsn ∧ (g.getLastD E0).lsn ≤ r.to ∧ 1 ≤ szG g ∧ szG g ≤ 1048576 := by
  have h0 := List.length_pos_iff.2 h.ne
  have h1 := h.ok _ h.hmem
  have h2 := h.ok _ (getLastD_mem h.ne E0)
  have h3 := h.pg _ h.hmem
  have h4 := szG_le g fun e he => ⟨(h.ok e he).1, (h.ok e he).2.1⟩
  have h5 := h.len
  have h6 := h.lsn (g.length - 1) (by omega)
  rw [← h.last] at h6
  omega
theorem take_flat (es : List E) (i : Nat) (h : i < es.length) (q : List UInt8) : es.flatMap frE ++ q = (es.take i).flatMap frE ++ (frE (es.getD i E0) ++ ((es.drop (i + 1)).flatMap frE ++ q)) := by
  have e1 : es = es.take i ++ (es.getD i E0 :: es.drop (i + 1)) := by
    rw [getD_eq es i h, ← List.drop_eq_getElem_cons h, List.take_append_drop]
  conv => lhs; rw [e1, List.flatMap_append, List.flatMap_cons]
  simp only [List.append_assoc]
theorem szG_take (es : List E) (i : Nat) (h : i < es.length) : szG (es.take (i + 1)) = szG (es.take i) + (frE (es.getD i E0)).length := by
  rw [List.take_succ_eq_append_getElem h, szG_app, szG_one, getD_eq es i h]
theorem unf_fr (p : List UInt8) {es : List E} (ok : ∀ e ∈ es, e.okB = true) (i : Nat) (hi : i < es.length) (q : List UInt8) :
    unf (p ++ (es.flatMap frE ++ q)) ((p.length + szG (es.take i) : Nat) : Int) = (encBy (es.getD i E0), ((p.length + szG (es.take (i + 1)) : Nat) : Int), 0) := by
  have hok := ok (es.getD i E0) (by rw [getD_eq _ _ hi]; exact List.getElem_mem hi)
  have e : p ++ (es.flatMap frE ++ q) = (p ++ (es.take i).flatMap frE) ++ (frm (encBy (es.getD i E0)) ++ ((es.drop (i + 1)).flatMap frE ++ q)) := by
    rw [take_flat es i hi q, frE_ok hok, List.append_assoc]
  have h1 := unf_at (encBy_len hok) (p ++ (es.take i).flatMap frE) ((es.drop (i + 1)).flatMap frE ++ q)
  rw [← e, List.length_append] at h1
  have h2 := szG_take es i hi
  rw [frE_ok hok, frm_len (encBy_len hok)] at h2
  unfold szG at h2 ⊢
  rw [h1, h2]
  congr 3
  omega
theorem unf_dmg (p : List UInt8) {es : List E} (ok : ∀ e ∈ es, e.okB = true) (q : List UInt8) (k : Nat) (hk : k < szG es) (y : UInt8) (hy : y ≠ (es.flatMap frE).getD k 0) :
    ∃ j, j < es.length ∧ (∀ i, i < j → unf (p ++ ((es.flatMap frE).set k y ++ q)) ((p.length + szG (es.take i) : Nat) : Int) = (encBy (es.getD i E0), ((p.length + szG (es.take (i + 1)) : Nat) : Int), 0)) ∧
      ((unf (p ++ ((es.flatMap frE).set k y ++ q)) ((p.length + szG (es.take j) : Nat) : Int)).2.2 = 0 → (decE (unf (p ++ ((es.flatMap frE).set k y ++ q)) ((p.length + szG (es.take j) : Nat) : Int)).1).2 ≠ 0) := by
  obtain ⟨j, h1, h2, h3⟩ := frames_find es k hk
  have hok := ok (es.getD j E0) (by rw [getD_eq _ _ h1]; exact List.getElem_mem h1)
  have hlen : (es.take j).length = j := by rw [List.length_take]; omega
  have e3 : es.take (j + 1) = es.take j ++ [es.getD j E0] := by rw [List.take_succ_eq_append_getElem h1, getD_eq es j h1]
  rw [e3, List.flatMap_append, List.length_append, List.flatMap_cons, List.flatMap_nil, List.append_nil] at h3
  obtain ⟨i, hi⟩ : ∃ i, k = ((es.take j).flatMap frE).length + i := ⟨k - ((es.take j).flatMap frE).length, by omega⟩
  have hi2 : i < (frE (es.getD j E0)).length := by omega
  have e2 := take_flat es j h1 []
  rw [List.append_nil, List.append_nil] at e2
  rw [e2, hi, getD_app3 _ _ _ _ hi2] at hy
  rw [e2, hi, set_app3 _ _ _ _ hi2]
  refine ⟨j, h1, fun n hn => ?_, fun h0 => ?_⟩
  · have h5 := unf_fr p (es := es.take j) (fun e he => ok e (List.mem_of_mem_take he)) n (by omega) ((frE (es.getD j E0)).set i y ++ (es.drop (j + 1)).flatMap frE ++ q)
    rw [List.take_take, List.take_take, Nat.min_eq_left (by omega), Nat.min_eq_left (by omega), getD_take _ _ _ hn] at h5
    rw [← h5]
    simp only [List.append_assoc]
  · have hq := encBy_len hok
    have hfl := frm_len hq
    rw [frE_ok hok] at hi2 hy h0 ⊢
    have e4 : p ++ ((es.take j).flatMap frE ++ ((frm (encBy (es.getD j E0))).set i y ++ (es.drop (j + 1)).flatMap frE) ++ q) = (p ++ (es.take j).flatMap frE) ++ ((frm (encBy (es.getD j E0))).set i y ++ ((es.drop (j + 1)).flatMap frE ++ q)) := by simp only [List.append_assoc]
    have e5 : p.length + szG (es.take j) = (p ++ (es.take j).flatMap frE).length := by rw [List.length_append]; rfl
    rw [e4, e5] at h0 ⊢
    rw [hfl] at hi2
    by_cases h4 : 4 ≤ i
    · rw [unf_bad hq _ _ i h4 hi2 y hy] at h0
      exact absurd h0 (by decide)
    · obtain ⟨a1, a2⟩ := unf_size hq _ _ i (by omega) y hy h0
      have a3 : encBy (es.getD j E0) <+: (frm (encBy (es.getD j E0))).drop 4 ++ ((es.drop (j + 1)).flatMap frE ++ q) := by
        rw [frm_eq hq, putL, frq, List.append_assoc, List.drop_left' (by rw [putL_len]; rfl), List.append_assoc]
        exact List.prefix_append _ _
      exact dec_len _ hok a2 a3 a1
theorem head_unf (r : Rq) (q : List UInt8) : unf (headR r ++ q) 0 = (headB r, 41, 0) := by
  have := unf_at (q := headB r) (by rw [headB_len]; omega) [] q
  rw [List.nil_append, show (([] : List UInt8).length : Int) = 0 from rfl] at this
  unfold headR
  rw [this, headB_len]
  rfl
theorem head_num {r : Rq} (h : Run r) : numV (headB r) 4 8 = r.fr ∧ numV (headB r) 12 8 = r.to ∧ numV (headB r) 20 4 = r.lo ∧ numV (headB r) 24 4 = r.hi ∧ numV (headB r) 28 1 = r.lv ∧ numV (headB r) 29 4 = r.es.length := by
  have hd := h.hd
  have hl := h.len
  have a1 : putL [80, 77, 82, 78] r.fr 8 <+: headB r := by unfold headB; exact (putL_pre _ _ _).trans ((putL_pre _ _ _).trans ((putL_pre _ _ _).trans ((putL_pre _ _ _).trans (putL_pre _ _ _))))
  have a2 : putL (putL [80, 77, 82, 78] r.fr 8) r.to 8 <+: headB r := by unfold headB; exact (putL_pre _ _ _).trans ((putL_pre _ _ _).trans ((putL_pre _ _ _).trans (putL_pre _ _ _)))
  have a3 : putL (putL (putL [80, 77, 82, 78] r.fr 8) r.to 8) r.lo 4 <+: headB r := by unfold headB; exact (putL_pre _ _ _).trans ((putL_pre _ _ _).trans (putL_pre _ _ _))
  have a4 : putL (putL (putL (putL [80, 77, 82, 78] r.fr 8) r.to 8) r.lo 4) r.hi 4 <+: headB r := by unfold headB; exact (putL_pre _ _ _).trans (putL_pre _ _ _)
  have a5 : putL (putL (putL (putL (putL [80, 77, 82, 78] r.fr 8) r.to 8) r.lo 4) r.hi 4) r.lv 1 <+: headB r := by unfold headB; exact putL_pre _ _ _
  have b1 := num_put _ _ _ _ (by omega) a1 ⟨by omega, by omega, by omega⟩
  have b2 := num_put _ _ _ _ (by omega) a2 ⟨by omega, by omega, by omega⟩
  have b3 := num_put _ _ _ _ (by omega) a3 ⟨by omega, by omega, by omega⟩
  have b4 := num_put _ _ _ _ (by omega) a4 ⟨by omega, by omega, by omega⟩
  have b5 := num_put _ _ _ _ (by omega) a5 ⟨by omega, by omega, by omega⟩
  have b6 := num_put _ _ (r.es.length : Int) 4 (by omega) (List.prefix_refl (headB r)) ⟨by omega, by omega, by omega⟩
  simp only [putL_len, List.length_cons, List.length_nil] at b1 b2 b3 b4 b5 b6
  exact ⟨b1, b2, b3, b4, b5, b6⟩
def rdF (s : List UInt8) : Nat → Option (List E × Int)
  | 0 => some ([], 0)
  | i + 1 => match rdF s i with
    | none => none
    | some (o, a) => if (unf s a).2.2 = 0 ∧ (decE (unf s a).1).2 = 0 then some (o ++ [(decE (unf s a).1).1], (unf s a).2.1) else none
theorem rdF_none {s : List UInt8} {i j : Nat} (h : rdF s i = none) (hij : i ≤ j) : rdF s j = none := by
  obtain ⟨d, rfl⟩ : ∃ d, j = i + d := ⟨j - i, by omega⟩
  induction d with
  | zero => exact h
  | succ d ih =>
    rw [show i + (d + 1) = (i + d) + 1 by omega]
    unfold rdF
    rw [ih (by omega)]
theorem rdF_frames {es : List E} (ok : ∀ e ∈ es, e.okB = true) : ∀ (i : Nat), i ≤ es.length → rdF (es.flatMap frE) i = some (es.take i, ((szG (es.take i) : Nat) : Int))
  | 0, _ => by simp [rdF, szG]
  | i + 1, hi => by
    have h1 := unf_fr [] ok i hi []
    simp only [List.nil_append, List.length_nil, Nat.zero_add, List.append_nil] at h1
    have hok := ok (es.getD i E0) (by rw [getD_eq _ _ hi]; exact List.getElem_mem hi)
    unfold rdF
    rw [rdF_frames ok i (by omega)]
    dsimp only
    rw [h1]
    dsimp only
    rw [dec_ok _ hok, if_pos ⟨rfl, rfl⟩, getD_eq _ _ hi, List.take_succ_eq_append_getElem hi]
theorem rdF_dmg {es : List E} (ok : ∀ e ∈ es, e.okB = true) (k : Nat) (hk : k < szG es) (y : UInt8) (hy : y ≠ (es.flatMap frE).getD k 0) : rdF ((es.flatMap frE).set k y) es.length = none := by
  obtain ⟨j, h1, h2, h3⟩ := unf_dmg [] ok [] k hk y hy
  simp only [List.nil_append, List.length_nil, Nat.zero_add, List.append_nil] at h2 h3
  have key : ∀ i, i ≤ j → rdF ((es.flatMap frE).set k y) i = some (es.take i, ((szG (es.take i) : Nat) : Int)) := by
    intro i
    induction i with
    | zero => intro _; simp [rdF, szG]
    | succ i ih =>
      intro hi
      have hil : i < es.length := by omega
      have hok := ok (es.getD i E0) (by rw [getD_eq _ _ hil]; exact List.getElem_mem hil)
      unfold rdF
      rw [ih (by omega)]
      dsimp only
      rw [h2 i (by omega)]
      dsimp only
      rw [dec_ok _ hok, if_pos ⟨rfl, rfl⟩, getD_eq _ _ hil, List.take_succ_eq_append_getElem hil]
  refine rdF_none (i := j + 1) ?_ (by omega)
  unfold rdF
  rw [key j (Nat.le_refl _)]
  dsimp only
  exact if_neg fun h => h3 h.1 h.2
def rightC (l : List E) (r : Ro) (i : Nat) : Bool := chB (l.getD i E0) && decide ((l.getD i E0).c.pg = r.pg) && (decide (i = 0) || (decide ((l.getD (i - 1) E0).lsn < (l.getD i E0).lsn) && decide ((l.getD i E0).ppg = (l.getD (i - 1) E0).lsn)))
def rightB (l : List E) (r : Ro) : Bool := (List.range l.length).all (rightC l r) && decide ((l.getD 0 E0).lsn = r.f) && decide ((l.getD (l.length - 1) E0).lsn = r.l)
theorem right_grp {r : Rq} {g : List E} (h : Grp r g) (a : Int) : rightB g (roG a g) = true := by
  unfold rightB
  have h0 := List.length_pos_iff.2 h.ne
  simp only [Bool.and_eq_true, List.all_eq_true, List.mem_range, decide_eq_true_eq]
  refine ⟨⟨fun i hi => ?_, ?_⟩, ?_⟩
  · have hm : g.getD i E0 ∈ g := by rw [getD_eq _ _ hi]; exact List.getElem_mem hi
    unfold rightC
    simp only [Bool.and_eq_true, Bool.or_eq_true, decide_eq_true_eq]
    refine ⟨⟨(h.ok _ hm).2.1, h.pg _ hm⟩, ?_⟩
    by_cases hz : i = 0
    · exact .inl hz
    · obtain ⟨j, rfl⟩ : ∃ j, i = j + 1 := ⟨i - 1, by omega⟩
      exact .inr (h.ch j hi)
  · obtain ⟨x, t, rfl⟩ := List.exists_cons_of_ne_nil h.ne
    rfl
  · exact congrArg E.lsn h.last.symm
theorem rosR_len (r : Rq) : (rosR r).length = (grps r.es).length := rosG_len _ _
theorem rosR_at (r : Rq) (i : Nat) (h : i < (grps r.es).length) : (rosR r).getD i Ro0 = roG (41 + ((szG ((grps r.es).take i).flatten : Nat) : Int)) ((grps r.es).getD i []) := rosG_at _ _ _ h
theorem bys_part {r : Rq} (h : Run r) (i : Nat) (hi : i < (grps r.es).length) : ∃ p q, bysR r = p ++ (((grps r.es).getD i []).flatMap frE ++ q) ∧ p.length = 41 + szG ((grps r.es).take i).flatten := by
  obtain ⟨_, hf⟩ := run_grps h
  have e := flat_at (grps r.es) i hi
  rw [hf] at e
  refine ⟨headR r ++ ((grps r.es).take i).flatten.flatMap frE, (((grps r.es).drop (i + 1)).flatten).flatMap frE, ?_, by rw [List.length_append, headR_len]; rfl⟩
  unfold bysR
  conv => lhs; rw [e]
  simp only [List.flatMap_append, List.append_assoc]
theorem bys_end {r : Rq} (h : Run r) : (bysR r).length = 41 + szG (grps r.es).flatten := by
  obtain ⟨_, hf⟩ := run_grps h
  rw [bysR_len, hf]
theorem take_flat_succ {α : Type} (gs : List (List α)) (i : Nat) (h : i < gs.length) : (gs.take (i + 1)).flatten = (gs.take i).flatten ++ gs.getD i [] := by
  rw [List.take_succ_eq_append_getElem h, List.flatten_append, getD_eq _ _ h]; simp
theorem flat_le {α : Type} (gs : List (List α)) (i : Nat) : ((gs.take i).flatten).length ≤ gs.flatten.length := by
  conv => rhs; rw [← List.take_append_drop i gs, List.flatten_append, List.length_append]
  omega
theorem szG_flat_le (gs : List (List E)) (i : Nat) : szG ((gs.take i).flatten) ≤ szG gs.flatten := by
  conv => rhs; rw [← List.take_append_drop i gs, List.flatten_append, szG_app]
  omega
def filN (l : List Ro) (f : Nat) : Nat := l.foldl (fun f r => f ||| 2 ^ r.pg.toNat) f
theorem fBit_val {p : Int} (h : 0 ≤ p ∧ p < 64) : fBit p = ((2 ^ p.toNat : Nat) : Int) := by
  have e : ((2 : Int) ^ min p.toNat 64) = ((2 ^ p.toNat : Nat) : Int) := by rw [Nat.min_eq_left (by omega), Int.natCast_pow]; rfl
  have hlt : (2 : Nat) ^ p.toNat < 2 ^ 64 := Nat.pow_lt_pow_right (by omega) (by omega)
  unfold fBit
  rw [Int.one_mul, e, wrap64]
  generalize (2 : Nat) ^ p.toNat = z at hlt
  unfold u64N; omega
theorem filS_val : ∀ (l : List Ro) (f : Nat), f < 2 ^ 64 → (∀ r ∈ l, 0 ≤ r.pg ∧ r.pg < 64) → l.foldl (fun f r => bits .or .u64 f (fBit r.pg)) (f : Int) = ((filN l f : Nat) : Int) ∧ filN l f < 2 ^ 64
  | [], f, hf, _ => ⟨rfl, hf⟩
  | r :: t, f, hf, h => by
    have hr := h r (by simp)
    have hlt : (2 : Nat) ^ r.pg.toNat < 2 ^ 64 := Nat.pow_lt_pow_right (by omega) (by omega)
    have ih := filS_val t (f ||| 2 ^ r.pg.toNat) (Nat.or_lt_two_pow hf hlt) fun x hx => h x (List.mem_cons_of_mem _ hx)
    rw [List.foldl_cons, fBit_val hr, or_val _ _ hf hlt]
    exact ih
theorem filN_bit : ∀ (l : List Ro) (f p : Nat), (filN l f).testBit p = (f.testBit p || l.any fun r => decide (r.pg.toNat = p))
  | [], f, p => by simp [filN]
  | r :: t, f, p => by
    have ih := filN_bit t (f ||| 2 ^ r.pg.toNat) p
    rw [show filN (r :: t) f = filN t (f ||| 2 ^ r.pg.toNat) from rfl, ih, Nat.testBit_or, Nat.testBit_two_pow, List.any_cons, Bool.or_assoc]
theorem and_one (x : Nat) (hx : x < 2 ^ 64) (p : Nat) (hp : p < 64) : bits .and .u64 ((x : Int).fdiv (2 ^ min p 64)) 1 = if x.testBit p = true then 1 else 0 := by
  have e0 : ((2 : Int) ^ min p 64) = ((2 ^ p : Nat) : Int) := by rw [Nat.min_eq_left (by omega), Int.natCast_pow]; rfl
  rw [e0, Int.fdiv_eq_ediv_of_nonneg _ (Int.natCast_nonneg _), ← Int.natCast_ediv]
  have hq : x / 2 ^ p < 2 ^ 64 := Nat.lt_of_le_of_lt (Nat.div_le_self _ _) hx
  have hb : x.testBit p = decide (x / 2 ^ p % 2 = 1) := by
    rw [Nat.testBit_eq_decide_div_mod_eq]
  rw [hb]
  generalize x / 2 ^ p = q at hq
  have e : bits .and .u64 (q : Int) 1 = IntKind.u64.wrap ((BitVec.ofInt 64 (q : Int) &&& BitVec.ofInt 64 1).toNat : Int) := rfl
  rw [e, BitVec.toNat_and]
  have h1 : (BitVec.ofInt 64 (q : Int)).toNat = q := by simp; omega
  have h2 : (BitVec.ofInt 64 (1 : Int)).toNat = 1 := by decide
  rw [h1, h2, Nat.and_one_is_mod, wrap64]
  by_cases hc : q % 2 = 1
  · rw [hc]; simp [u64N]
  · rw [show q % 2 = 0 by omega]; simp [u64N]
theorem may_bit {l : List Ro} (h : ∀ r ∈ l, 0 ≤ r.pg ∧ r.pg < 64) (p : Nat) (hp : p < 64) : bits .and .u64 ((filS l).fdiv (2 ^ min p 64)) 1 = if (l.any fun r => decide (r.pg = p)) = true then 1 else 0 := by
  obtain ⟨h1, h2⟩ := filS_val l 0 (by decide) h
  have e : filS l = ((filN l 0 : Nat) : Int) := h1
  rw [e, and_one _ h2 p hp, filN_bit, Nat.zero_testBit, Bool.false_or]
  have : (l.any fun r => decide (r.pg.toNat = p)) = l.any fun r => decide (r.pg = p) := by
    rw [Bool.eq_iff_iff, List.any_eq_true, List.any_eq_true]
    constructor
    · rintro ⟨r, hr, hx⟩
      have := h r hr
      exact ⟨r, hr, by simp at hx ⊢; omega⟩
    · rintro ⟨r, hr, hx⟩
      have := h r hr
      exact ⟨r, hr, by simp at hx ⊢; omega⟩
  rw [this]
def rdsS : List Ro → List Int → Int
  | [], _ => 0
  | r :: t, ps => (if r.pg ∈ ps then r.sz else 0) + rdsS t ps
theorem rdsS_app (l m : List Ro) (ps : List Int) : rdsS (l ++ m) ps = rdsS l ps + rdsS m ps := by
  induction l with
  | nil => simp [rdsS]
  | cons a t ih => rw [List.cons_append, rdsS, rdsS, ih, Int.add_assoc]
theorem rdsS_succ (l : List Ro) (ps : List Int) (i : Nat) (h : i < l.length) : rdsS (l.take (i + 1)) ps = rdsS (l.take i) ps + (if (l.getD i Ro0).pg ∈ ps then (l.getD i Ro0).sz else 0) := by
  rw [List.take_succ_eq_append_getElem h, rdsS_app, getD_eq _ _ h]
  simp [rdsS]
theorem rdsS_le : ∀ (l : List Ro) (a b : List Int), (∀ r ∈ l, 0 ≤ r.sz) → (∀ p ∈ a, p ∈ b) → rdsS l a ≤ rdsS l b
  | [], _, _, _, _ => Int.le_refl _
  | r :: t, a, b, h, hs => by
    have ih := rdsS_le t a b (fun x hx => h x (List.mem_cons_of_mem _ hx)) hs
    have h0 := h r (by simp)
    unfold rdsS
    by_cases ha : r.pg ∈ a
    · rw [if_pos ha, if_pos (hs _ ha)]; omega
    · rw [if_neg ha]; split <;> omega
theorem rdsS_in (l : List Ro) (a : List Int) (h : ∀ r ∈ l, 0 ≤ r.sz) (i j : Nat) (hij : i ≤ j) : rdsS (l.take i) a ≤ rdsS (l.take j) a := by
  have e : l.take j = l.take i ++ (l.take j).drop i := by
    conv => lhs; rw [← List.take_append_drop i (l.take j), List.take_take, Nat.min_eq_left hij]
  rw [e, rdsS_app]
  have : 0 ≤ rdsS ((l.take j).drop i) a := by
    have hm : ∀ r ∈ (l.take j).drop i, 0 ≤ r.sz := fun r hr => h r (List.mem_of_mem_take (List.mem_of_mem_drop hr))
    generalize (l.take j).drop i = m at hm
    induction m with
    | nil => exact Int.le_refl _
    | cons x t ih =>
      have h1 := hm x (by simp)
      have h2 := ih fun r hr => hm r (List.mem_cons_of_mem _ hr)
      unfold rdsS
      split <;> omega
  omega
theorem rdsS_all : ∀ (gs : List (List E)) (a : Int) (ps : List Int), (∀ g ∈ gs, pgG g ∈ ps) → rdsS (rosG a gs) ps = szG gs.flatten
  | [], _, _, _ => by simp [rosG, rdsS, szG]
  | g :: t, a, ps, h => by
    rw [rosG, rdsS, rdsS_all t _ ps fun x hx => h x (List.mem_cons_of_mem _ hx), List.flatten_cons, szG_app]
    have : (roG a g).pg ∈ ps := h g (by simp)
    rw [if_pos this]
    simp [roG]
def below (es : List E) (p : Int) : List E := es.filter fun e => decide (e.c.pg < p)
theorem below_succ : ∀ (es : List E) (p : Int), es.Pairwise (fun a b => a.c.pg ≤ b.c.pg) → below es (p + 1) = below es p ++ sel es p
  | [], _, _ => rfl
  | e :: r, p, h => by
    rw [List.pairwise_cons] at h
    have ih := below_succ r p h.2
    unfold below sel at ih ⊢
    by_cases h1 : e.c.pg < p
    · rw [List.filter_cons_of_pos (by simp; omega), List.filter_cons_of_pos (by simp; omega), List.filter_cons_of_neg (by simp; omega), ih]; rfl
    · by_cases h2 : e.c.pg = p
      · have h3 : List.filter (fun e => decide (e.c.pg < p)) r = [] := List.filter_eq_nil_iff.2 fun x hx => by have := h.1 x hx; simp; omega
        rw [h3, List.nil_append] at ih
        rw [List.filter_cons_of_pos (by simp; omega), List.filter_cons_of_neg (by simp; omega), List.filter_cons_of_pos (by simp; omega), h3, ih]; rfl
      · have h3 : ∀ q : Int, q ≤ p + 1 → List.filter (fun e => decide (e.c.pg < q)) r = [] := fun q hq => List.filter_eq_nil_iff.2 fun x hx => by have := h.1 x hx; simp; omega
        rw [List.filter_cons_of_neg (by simp; omega), List.filter_cons_of_neg (by simp; omega), List.filter_cons_of_neg (by simp; omega), ih]
theorem below_all {es : List E} {p : Int} (h : ∀ e ∈ es, e.c.pg < p) : below es p = es := List.filter_eq_self.2 fun e he => decide_eq_true (h e he)
theorem below_zero {es : List E} (h : ∀ e ∈ es, 0 ≤ e.c.pg) : below es 0 = [] := List.filter_eq_nil_iff.2 fun e he => by have := h e he; simp; omega
section
attribute [local go_sem] Rq.c lenI allI appI slkI srcI frzI
def cmpS (a b : Int) : Int := if a < b then -1 else if b < a then 1 else 0
theorem isnan_v (n : Int) : VCalls prog 84 [.int .i64 n] [] (Ret (.bool false)) := by
  refine dd Tryz.func84 ?_
  (unfold Tryz.f84; refine rn trivial ?_; try with_reducible exact ⟨⟩)
theorem cmpi_v (a b : Int) : VCalls prog 73 [.int .i64 a, .int .i64 b] [] (Ret (.int .i64 (cmpS a b))) := by
  refine dd Tryz.func73 ?_
  have c1 := isnan_v a
  have c2 := isnan_v b
  have e0 : cmpS a b = if a < b then -1 else if b < a then 1 else 0 := rfl
  generalize cmpS a b = r at *
  (unfold Tryz.f73; refine rn trivial ?_)
  refine rn F ?_
  repeat' (first
    | with_reducible exact ⟨⟩
    | (refine sB F ?_ ?_ <;> intro hZ)
    | refine vp F (c1) ?_
    | refine vp F (c2) ?_)
  all_goals (first | (rw [e0]; simp (disch := first | assumption | omega | exact rfl | exact nf (by assumption) | exact nt (by assumption) | decide | fail) only [if_pos, if_neg]; first | done | rfl) | (rw [e0]; simp (disch := first | assumption | omega | exact rfl | exact nf (by assumption) | exact nt (by assumption) | decide | (simp_all; done) | fail) only [if_pos, if_neg]; first | done | rfl))
structure OrS (x y : Int) where
  i : Nat
  hi : i ≤ 2
  hx : 1 ≤ i → x = 0
  hy : 2 ≤ i → y = 0
theorem cmpor_v (l : List Int) (hl : l.length = 2) : VCalls prog 72 [.pv (.sl (fz encI l))] [] (Ret (.int .i64 (if l.getD 0 0 = 0 then l.getD 1 0 else l.getD 0 0))) := by
  refine dd Tryz.func72 ?_
  (unfold Tryz.f72; refine rn trivial ?_)
  have g0 := fzI_get l 0 (by omega)
  have g1 := fzI_get l 1 (by omega)
  generalize l.getD 0 0 = x at *
  generalize l.getD 1 0 = y at *
  have F := @hl
  refine rn F ?_
  refine vloopW (fun s : OrS x y => ⟨18, 0, [(8, .int .i64 s.i), (7, .int .i64 2), (6, .pv (.sl (fz encI l))), (3, .int .i64 0)], []⟩) (fun s => 2 - s.i) ⟨0, by omega, by omega, by omega⟩ (gc []) ?_
  rintro ⟨i, hi, hx, hy⟩
  dsimp only
  rcases (show i = 0 ∨ i = 1 ∨ i = 2 by omega) with rfl | rfl | rfl
  · by_cases hz : x = 0
    · skip
      have F := (And.intro @g0 @hl)
      refine rn F ?_
      all_goals first | contradiction | exact ⟨⟨1, by omega, fun _ => hz, by omega⟩, by dsimp only; omega, (gc [])⟩
    · skip
      have F := (And.intro @g0 @hl)
      refine rn F ?_
      all_goals first | contradiction | (rw [if_neg hz])
  · have hx := hx (by omega)
    by_cases hz : y = 0
    · skip
      have F := (And.intro @g1 @hl)
      refine rn F ?_
      all_goals first | contradiction | exact ⟨⟨2, by omega, fun _ => hx, fun _ => hz⟩, by dsimp only; omega, (gc [])⟩
    · skip
      have F := (And.intro @g1 @hl)
      refine rn F ?_
      all_goals first | contradiction | (rw [if_pos hx])
  · have hx := hx (by omega)
    have hy := hy (by omega)
    have F := @hl
    refine rn F ?_
    all_goals rw [if_pos hx, hy]
def cmpE (a b : E) : Int := if cmpS a.c.pg b.c.pg = 0 then cmpS a.lsn b.lsn else cmpS a.c.pg b.c.pg
theorem cmpE_ge (a b : E) : (0 ≤ cmpE a b → b.c.pg < a.c.pg ∨ (a.c.pg = b.c.pg ∧ b.lsn ≤ a.lsn)) ∧ (cmpE a b < 0 → a.c.pg < b.c.pg ∨ (a.c.pg = b.c.pg ∧ a.lsn < b.lsn)) := by
  unfold cmpE cmpS
  repeat' split
  all_goals omega
theorem cmpE_v (a b : E) : VCalls prog 58 [.agg a.d, .agg b.d] [] (Ret (.int .i64 (cmpE a b))) := by
  refine dd Tryz.func58 ?_
  have c1 := cmpi_v a.c.pg b.c.pg
  have c2 := cmpi_v a.lsn b.lsn
  have e0 : cmpE a b = if cmpS a.c.pg b.c.pg = 0 then cmpS a.lsn b.lsn else cmpS a.c.pg b.c.pg := rfl
  rw [e0]
  generalize cmpS a.c.pg b.c.pg = x at *
  generalize cmpS a.lsn b.lsn = y at *
  have c3 := cmpor_v [x, y] rfl
  have hL : ([.int .i64 x, .int .i64 y] : List DV) = cells encI [x, y] := rfl
  have hl : [x, y].length = 2 := rfl
  (unfold Tryz.f58; refine rn trivial ?_)
  have F := (And.intro @hL @hl)
  refine rn F ?_
  repeat' (first
    | with_reducible exact ⟨⟩
    | refine vp F (c1) ?_
    | refine vp F (c2) ?_
    | refine vl F (c3) ?_
    | (refine vspine (id := 1) [0, 1, 2, 3, 4, 5, 7, 8, 9, 10] [⟨[], [], 6, [0, 1, 3, 4, 7, 8, 9, 10], []⟩, ⟨[], [], 11, [0, 1, 2, 3, 4, 5, 7, 9], []⟩, ⟨[12], [12], 13, [0, 1, 2, 3, 4, 5, 7, 8, 9, 10], []⟩, ⟨[], [], 14, [], []⟩] (by kernel_rfl) (by kernel_rfl) ?_; refine rn F ?_))
theorem rnnum_v (r : Rq) : VCalls prog 56 [.agg r.c] [] (Ret (.bool (numB r.fr r.to r.lo r.hi r.lv))) := by
  refine dd Tryz.func56 ?_
  (unfold Tryz.f56; refine rn trivial ?_)
  refine rn F ?_
  repeat' (first
    | with_reducible exact ⟨⟩
    | (refine sG F ?_ ?_ <;> intro hZ))
  all_goals (first | rfl | (congr 3; rw [Bool.eq_iff_iff]; (try simp only [numB, decide_eq_true_eq, Bool.and_eq_true, Bool.or_eq_true, Bool.not_eq_true', Bool.not_eq_false', decide_eq_false_iff_not, beq_iff_eq, bne_iff_ne, ne_eq, Bool.false_eq_true, Bool.true_eq_false, iff_true, true_iff, iff_false, false_iff]); first | done | omega | grind))
theorem rrnum_v (fr to lo hi lv : Int) : VCalls prog 43 [.int .i64 fr, .int .i64 to, .int .i64 lo, .int .i64 hi, .int .i64 lv] [] (Ret (.bool (numB fr to lo hi lv))) := by
  refine dd Tryz.func43 ?_
  (unfold Tryz.f43; refine rn trivial ?_)
  refine rn F ?_
  repeat' (first
    | with_reducible exact ⟨⟩
    | (refine sG F ?_ ?_ <;> intro hZ))
  all_goals (first | rfl | (congr 3; rw [Bool.eq_iff_iff]; (try simp only [numB, decide_eq_true_eq, Bool.and_eq_true, Bool.or_eq_true, Bool.not_eq_true', Bool.not_eq_false', decide_eq_false_iff_not, beq_iff_eq, bne_iff_ne, ne_eq, Bool.false_eq_true, Bool.true_eq_false, iff_true, true_iff, iff_false, false_iff]); first | done | omega | grind))
theorem within_v (r : Rq) (e : E) : VCalls prog 57 [.agg r.c, .agg e.d] [] (Ret (.bool (inR r e))) := by
  refine dd Tryz.func57 ?_
  have c1 := changes_v e
  have e0 : inR r e = ((e.kind == 1 || e.kind == 2) && decide (r.lo ≤ e.c.pg) && decide (e.c.pg ≤ r.hi) && decide (r.fr ≤ e.lsn) && decide (e.lsn ≤ r.to)) := rfl
  rw [e0]
  generalize (e.kind == 1 || e.kind == 2) = b at *
  (unfold Tryz.f57; refine rn trivial ?_)
  refine rn F ?_
  repeat' (first
    | with_reducible exact ⟨⟩
    | (refine sG F ?_ ?_ <;> intro hZ)
    | refine vp F (c1) ?_)
  all_goals (first | rfl | (congr 3; rw [Bool.eq_iff_iff]; (try simp only [decide_eq_true_eq, Bool.and_eq_true, Bool.or_eq_true, Bool.not_eq_true', Bool.not_eq_false', decide_eq_false_iff_not, beq_iff_eq, bne_iff_ne, ne_eq, Bool.false_eq_true, Bool.true_eq_false, iff_true, true_iff, iff_false, false_iff]); first | done | omega | grind))
def runL (l : List E) (fr : Int) (i : Nat) : Bool := if i = 0 ∨ (l.getD (i - 1) E0).c.pg < (l.getD i E0).c.pg then decide ((l.getD i E0).ppg < fr)
   else decide ((l.getD (i - 1) E0).c.pg = (l.getD i E0).c.pg) && decide ((l.getD (i - 1) E0).lsn < (l.getD i E0).lsn) && decide ((l.getD i E0).ppg = (l.getD (i - 1) E0).lsn)
theorem runL_iff (l : List E) (fr : Int) (i : Nat) : runL l fr i = true ↔ ((i = 0 ∨ (l.getD (i - 1) E0).c.pg < (l.getD i E0).c.pg) ∧ (l.getD i E0).ppg < fr) ∨ (i ≠ 0 ∧ (l.getD (i - 1) E0).c.pg = (l.getD i E0).c.pg ∧ (l.getD (i - 1) E0).lsn < (l.getD i E0).lsn ∧ (l.getD i E0).ppg = (l.getD (i - 1) E0).lsn) := by
  unfold runL
  split
  · rename_i h
    rw [decide_eq_true_eq]
    omega
  · rename_i h
    simp only [Bool.and_eq_true, decide_eq_true_eq]
    omega
theorem rnvalid_v (r : Rq) (hl : r.es.length ≤ 9223372036854775807) : VCalls prog 32 [.agg r.c] [] (Ret (.bool (runB r))) := by
  refine dd Tryz.func32 ?_
  have c1 := rnnum_v r
  have hB : runB r = (numB r.fr r.to r.lo r.hi r.lv && decide (r.es.length ≤ 4096) && (List.range r.es.length).all (runC r)) := rfl
  generalize numB r.fr r.to r.lo r.hi r.lv = nb at *
  generalize runB r = B at *
  (unfold Tryz.f32; refine rn trivial ?_)
  cases nb
  · skip
    refine rn F ?_
    repeat' (first
      | with_reducible exact ⟨⟩
      | refine vp F (c1) ?_)
    all_goals (rw [hB]; rfl)
  by_cases h4 : 4096 < (r.es.length : Int)
  · skip
    have F := @h4
    refine rn F ?_
    repeat' (first
      | with_reducible exact ⟨⟩
      | refine vp F (c1) ?_)
    all_goals (rw [hB, decide_eq_false (show ¬ r.es.length ≤ 4096 by omega)]; rfl)
  have F := @h4
  refine rn F ?_
  repeat' (first
    | with_reducible exact ⟨⟩
    | refine vp F (c1) ?_)
  rw [decide_eq_true (show r.es.length ≤ 4096 by omega), Bool.and_true, Bool.true_and] at hB
  refine vloopW (fun s : Okay r.es.length (runC r) => ⟨71, 0, [(18, .int .i64 s.i), (17, .int .i64 r.es.length), (16, .pv (.sl (fz encE r.es))), (1, .ptr 0 0)], [⟨26, true, r.c⟩]⟩) (fun s => r.es.length - s.i) (Okay.start _ _) (gc [0]) ?_
  intro s
  have hsi := s.hi
  have hg := fun h : s.i < r.es.length => fzE_g r.es s.i h
  have hgp := fun h : s.i - 1 < r.es.length => fzE_g r.es (s.i - 1) h
  have c2 := valid_v (r.es.getD s.i E0)
  have c3 := within_v r (r.es.getD s.i E0)
  have c4 := cmpE_v (r.es.getD (s.i - 1) E0) (r.es.getD s.i E0)
  have hc := cmpE_ge (r.es.getD (s.i - 1) E0) (r.es.getD s.i E0)
  have hL := runL_iff r.es r.fr s.i
  have e : runC r s.i = ((r.es.getD s.i E0).okB && inR r (r.es.getD s.i E0) && runL r.es r.fr s.i) := rfl
  generalize (r.es.getD s.i E0).okB = b1 at *
  generalize inR r (r.es.getD s.i E0) = b2 at *
  generalize runL r.es r.fr s.i = b3 at *
  generalize cmpE (r.es.getD (s.i - 1) E0) (r.es.getD s.i E0) = cm at *
  have F := (And.intro @hg @hgp)
  refine rn F ?_
  repeat' (first
    | with_reducible exact ⟨⟩
    | (refine sG F ?_ ?_ <;> intro hZ)
    | (refine sB F ?_ ?_ <;> intro hZ)
    | refine vp F (c2) ?_
    | refine vp F (c3) ?_
    | refine vp F (c4) ?_
    | (refine vspine (id := 8) [0, 1, 2, 3, 4, 5, 6, 7, 8, 9, 10, 11, 12, 13, 14, 15] [] (by kernel_rfl) (by kernel_rfl) ?_; refine rn F ?_))
  all_goals first
    | (refine congrArg DV.bool (s.no (by omega) hB ?_).symm; rw [e]; first | (rw [Bool.eq_false_iff.2 (show ¬ b3 = true from fun h => by rw [hL] at h; omega), Bool.and_false]; done) | (simp_all; done))
    | (exact congrArg DV.bool (s.yes (by omega) hB).symm)
    | (exact ⟨s.next (by omega) (by rw [e]; simp only [Bool.and_eq_true]; exact ⟨⟨by assumption, by assumption⟩, hL.2 (by omega)⟩), s.dec (by omega), (gc [0])⟩)
    | skip
end
section
attribute [local go_sem] Rq.c
theorem rcmpE_v (a b : E) : VCalls prog 46 [.agg a.d, .agg b.d] [] (Ret (.int .i64 (cmpE a b))) := by
  refine dd Tryz.func46 ?_
  have e0 : cmpE a b = if a.c.pg < b.c.pg ∨ (a.c.pg = b.c.pg ∧ a.lsn < b.lsn) then -1 else if a.c.pg = b.c.pg ∧ a.lsn = b.lsn then 0 else 1 := by
    unfold cmpE cmpS
    repeat' split
    all_goals omega
  generalize cmpE a b = r at *
  (unfold Tryz.f46; refine rn trivial ?_)
  refine rn F ?_
  repeat' (first
    | with_reducible exact ⟨⟩
    | (refine sG F ?_ ?_ <;> intro hZ)
    | (refine sB F ?_ ?_ <;> intro hZ))
  all_goals (rw [e0]; repeat (first | rw [if_pos (by omega)] | rw [if_neg (by omega)]))
theorem rrnvalid_v (r : Rq) (hl : r.es.length ≤ 9223372036854775807) : VCalls prog 23 [.agg r.c] [] (Ret (.bool (runB r))) := by
  refine dd Tryz.func23 ?_
  have c1 := rrnum_v r.fr r.to r.lo r.hi r.lv
  have hB : runB r = (numB r.fr r.to r.lo r.hi r.lv && decide (r.es.length ≤ 4096) && (List.range r.es.length).all (runC r)) := rfl
  generalize numB r.fr r.to r.lo r.hi r.lv = nb at *
  generalize runB r = B at *
  (unfold Tryz.f23; refine rn trivial ?_)
  cases nb
  · skip
    refine rn F ?_
    repeat' (first
      | with_reducible exact ⟨⟩
      | refine vp F (c1) ?_)
    all_goals (rw [hB]; rfl)
  by_cases h4 : 4096 < (r.es.length : Int)
  · skip
    have F := @h4
    refine rn F ?_
    repeat' (first
      | with_reducible exact ⟨⟩
      | refine vp F (c1) ?_)
    all_goals (rw [hB, decide_eq_false (show ¬ r.es.length ≤ 4096 by omega)]; rfl)
  have F := @h4
  refine rn F ?_
  repeat' (first
    | with_reducible exact ⟨⟩
    | refine vp F (c1) ?_)
  rw [decide_eq_true (show r.es.length ≤ 4096 by omega), Bool.and_true, Bool.true_and] at hB
  refine vloopW (fun s : Okay r.es.length (runC r) => ⟨117, 0, [(3, .int .i64 s.i), (1, .ptr 0 0)], [⟨26, true, r.c⟩]⟩) (fun s => r.es.length - s.i) (Okay.start _ _) (gc [0]) ?_
  intro s
  have hsi := s.hi
  have hg := fun h : s.i < r.es.length => fzE_g r.es s.i h
  have hgp := fun h : s.i - 1 < r.es.length => fzE_g r.es (s.i - 1) h
  have c2 := rvalid_v (r.es.getD s.i E0)
  have c3 := rchanges_v (r.es.getD s.i E0)
  have c4 := rcmpE_v (r.es.getD (s.i - 1) E0) (r.es.getD s.i E0)
  have hc := cmpE_ge (r.es.getD (s.i - 1) E0) (r.es.getD s.i E0)
  have hL := runL_iff r.es r.fr s.i
  have e : runC r s.i = ((r.es.getD s.i E0).okB && inR r (r.es.getD s.i E0) && runL r.es r.fr s.i) := rfl
  have eR : inR r (r.es.getD s.i E0) = (((r.es.getD s.i E0).kind == 1 || (r.es.getD s.i E0).kind == 2) && decide (r.lo ≤ (r.es.getD s.i E0).c.pg) && decide ((r.es.getD s.i E0).c.pg ≤ r.hi) && decide (r.fr ≤ (r.es.getD s.i E0).lsn) && decide ((r.es.getD s.i E0).lsn ≤ r.to)) := rfl
  rw [eR] at e
  generalize (r.es.getD s.i E0).okB = b1 at *
  generalize ((r.es.getD s.i E0).kind == 1 || (r.es.getD s.i E0).kind == 2) = b2 at *
  generalize runL r.es r.fr s.i = b3 at *
  generalize cmpE (r.es.getD (s.i - 1) E0) (r.es.getD s.i E0) = cm at *
  have F := (And.intro @hg @hgp)
  refine rn F ?_
  repeat' (first
    | with_reducible exact ⟨⟩
    | (refine sG F ?_ ?_ <;> intro hZ)
    | (refine sB F ?_ ?_ <;> intro hZ)
    | refine vp F (c2) ?_
    | refine vp F (c3) ?_
    | refine vp F (c4) ?_
    | (refine vspine (id := 9) [0, 1, 2, 3, 4, 5, 6, 7, 8, 9] [⟨[], [], 10, [0, 1, 3, 4, 5, 6, 7], [11, 12]⟩] (by kernel_rfl) (by kernel_rfl) ?_; refine rn F ?_)
    | (refine vspine (id := 11) [0, 1, 2, 3, 4, 5, 6, 7, 8, 9, 10, 11, 12, 13, 14, 15] [] (by kernel_rfl) (by kernel_rfl) ?_; refine rn F ?_)
    | (refine vspine (id := 12) [0, 1, 2, 3, 4, 5, 6, 7, 8, 9] [] (by kernel_rfl) (by kernel_rfl) ?_; refine rn F ?_))
  all_goals first
    | (refine congrArg DV.bool (s.no (by omega) hB ?_).symm; rw [e]; first | (rw [Bool.eq_false_iff.2 (show ¬ b3 = true from fun h => by rw [hL] at h; omega), Bool.and_false]; done) | (refine Bool.eq_false_iff.2 fun h => ?_; simp only [Bool.and_eq_true, decide_eq_true_eq] at h; omega) | (simp_all; done))
    | (exact congrArg DV.bool (s.yes (by omega) hB).symm)
    | (exact ⟨s.next (by omega) (by rw [e]; simp only [Bool.and_eq_true, decide_eq_true_eq]; exact ⟨⟨by assumption, ⟨⟨⟨⟨by assumption, by omega⟩, by omega⟩, by omega⟩, by omega⟩⟩, hL.2 (by omega)⟩), s.dec (by omega), (gc [0])⟩)
    | skip
theorem sel_succ (l : List E) (p : Int) (i : Nat) (h : i < l.length) : sel (l.take (i + 1)) p = if (l.getD i E0).c.pg = p then sel (l.take i) p ++ [l.getD i E0] else sel (l.take i) p := by
  unfold sel
  rw [List.take_succ_eq_append_getElem h, List.filter_append, getD_eq l i h]
  split <;> rename_i hx <;> simp [hx]
theorem sel_le (l : List E) (p : Int) (i : Nat) : (sel (l.take i) p).length ≤ i := Nat.le_trans (List.length_filter_le _ _) (by rw [List.length_take]; omega)
theorem rsel_v (r : Rq) (hl : r.es.length ≤ 9223372036854775807) (p : Int) (h : runB r = true) : VCalls prog 11 [.agg r.c, .int .i64 p] [] (Ret (.pv (.sl (fz encE (sel r.es p))))) := by
  refine dd Tryz.func11 ?_
  have c1 := rrnvalid_v r hl
  rw [h] at c1
  have hlen := (runB_run h).len
  (unfold Tryz.f11; refine rn trivial ?_)
  refine rn F ?_
  repeat' (first
    | with_reducible exact ⟨⟩
    | refine vp F (c1) ?_)
  refine VLoop.nilOwn 5 46 13 rfl ?_
  refine vloopW (fun s : To r.es.length => ⟨35, 0, [(6, .int .i64 s.i), (5, .own 1 13 0 (sel (r.es.take s.i) p).length), (2, .ptr 0 0), (1, .int .i64 p)], [⟨26, true, r.c⟩, ⟨46, true, cells encE (sel (r.es.take s.i) p)⟩]⟩) (fun s => r.es.length - s.i) ⟨0, Nat.zero_le _⟩ (gc [0, 1]) ?_
  rintro ⟨i, hi⟩
  dsimp only
  have hg := fun h : i < r.es.length => fzE_g r.es i h
  have hle := sel_le r.es p i
  have hs := sel_succ r.es p i
  have hb : ((sel (r.es.take i) p).length + 1) * 128 ≤ 140737488355328 := by omega
  have F := (And.intro @hg (And.intro @hb @app_E))
  refine rn F ?_
  repeat' (first
    | with_reducible exact ⟨⟩
    | (refine sB F ?_ ?_ <;> intro hZ))
  · replace hs := hs (by omega)
    rw [if_pos (by assumption)] at hs
    refine ⟨⟨i + 1, by omega⟩, by dsimp only; omega, ?_⟩
    dsimp only
    rw [hs, List.length_append]
    exact (gc [0, 3])
  · replace hs := hs (by omega)
    rw [if_neg (by assumption)] at hs
    refine ⟨⟨i + 1, by omega⟩, by dsimp only; omega, ?_⟩
    dsimp only
    rw [hs]
    exact (gc [0, 1])
  · rw [List.take_of_length_le (by omega)]
end
section
attribute [local go_sem] Rq.c
theorem rhead_v (r : Rq) : VCalls prog 30 [.agg r.c] [] (Ret (.pv (.str (headB r)))) := by
  refine dd Tryz.func30 ?_
  have c1 := rput_v [80, 77, 82, 78] (by decide) r.fr 8 (by omega) (by omega)
  have c2 := rput_v (putL [80, 77, 82, 78] r.fr 8) (by simp [putL_len]) r.to 8 (by omega) (by omega)
  have c3 := rput_v (putL (putL [80, 77, 82, 78] r.fr 8) r.to 8) (by simp [putL_len]) r.lo 4 (by omega) (by omega)
  have c4 := rput_v (putL (putL (putL [80, 77, 82, 78] r.fr 8) r.to 8) r.lo 4) (by simp [putL_len]) r.hi 4 (by omega) (by omega)
  have c5 := rput_v (putL (putL (putL (putL [80, 77, 82, 78] r.fr 8) r.to 8) r.lo 4) r.hi 4) (by simp [putL_len]) r.lv 1 (by omega) (by omega)
  have c6 := rput_v (putL (putL (putL (putL (putL [80, 77, 82, 78] r.fr 8) r.to 8) r.lo 4) r.hi 4) r.lv 1) (by simp [putL_len]) r.es.length 4 (by omega) (by omega)
  unfold headB
  (unfold Tryz.f30; refine rn trivial ?_)
  refine rn F ?_
  repeat' (first
    | with_reducible exact ⟨⟩
    | refine vp F (c1) ?_
    | refine vp F (c2) ?_
    | refine vp F (c3) ?_
    | refine vp F (c4) ?_
    | refine vp F (c5) ?_
    | refine vp F (c6) ?_)
def encS23 (r : Rq) : List UInt8 × Int := if runB r = true then (bysR r, 0) else ([], 40)
theorem renc23_v (r : Rq) (hl : r.es.length ≤ 9223372036854775807) : VCalls prog 17 [.agg r.c] [] (Ret (.tup [.pv (.str (encS23 r).1), .int .i64 (encS23 r).2])) := by
  refine dd Tryz.func17 ?_
  have c1 := rrnvalid_v r hl
  have c2 := rhead_v r
  have c3 := rframe_v (headB r) (by rw [headB_len]; omega)
  have hh := headR_len r
  have hR : frm (headB r) = headR r := rfl
  rw [hR] at c3
  unfold encS23
  (unfold Tryz.f17; refine rn trivial ?_)
  cases hv : runB r
  · rw [hv] at c1
    refine rn F ?_
    repeat' (first
      | with_reducible exact ⟨⟩
      | refine vp F (c1) ?_)
    all_goals rfl
  rw [hv] at c1
  have hlen := (runB_run hv).len
  unfold bysR
  refine rn F ?_
  repeat' (first
    | with_reducible exact ⟨⟩
    | refine vp F (c1) ?_
    | refine vp F (c2) ?_
    | refine vp F (c3) ?_)
  generalize headR r = H at *
  refine vloopW (fun s : To r.es.length => ⟨35, 0, [(5, .int .i64 s.i), (4, .pv (.str (H ++ (r.es.take s.i).flatMap frE))), (1, .ptr 0 0)], [⟨26, true, r.c⟩]⟩) (fun s => r.es.length - s.i) ⟨0, Nat.zero_le _⟩ (by simp only [List.take_zero, List.flatMap_nil, List.append_nil]; exact (gc [0])) ?_
  rintro ⟨i, hi⟩
  dsimp only
  have hg := fun h : i < r.es.length => fzE_g r.es i h
  have c4 := reenc_v (r.es.getD i E0)
  have hf := frE_len (r.es.getD i E0)
  have h5 := encE5_len (r.es.getD i E0)
  have c5 := rframe_v (encE5 (r.es.getD i E0)).1 (by omega)
  have hfr : frm (encE5 (r.es.getD i E0)).1 = frE (r.es.getD i E0) := rfl
  rw [hfr] at c5
  have l1 := fr_len (r.es.take i)
  rw [List.length_take] at l1
  have hH : (H ++ (r.es.take i).flatMap frE).length = H.length + ((r.es.take i).flatMap frE).length := List.length_append
  have a1 := str_add (a := H ++ (r.es.take i).flatMap frE) (b := frE (r.es.getD i E0)) (by rw [hH]; omega)
  generalize encE5 (r.es.getD i E0) = ee at *
  have F := (And.intro @hg @a1)
  refine rn F ?_
  repeat' (first
    | with_reducible exact ⟨⟩
    | (refine sB F ?_ ?_ <;> intro hZ)
    | refine vp F (c4) ?_
    | refine vp F (c5) ?_)
  · refine ⟨⟨i + 1, by omega⟩, by dsimp only; omega, ?_⟩
    dsimp only
    rw [show (r.es.take (i + 1)).flatMap frE = (r.es.take i).flatMap frE ++ frE (r.es.getD i E0) by rw [List.take_succ_eq_append_getElem (by omega), List.flatMap_append, getD_eq r.es i (by omega)]; simp, ← List.append_assoc]
    exact (gc [0])
  · rw [List.take_of_length_le (show r.es.length ≤ i by omega)]
@[go_sem] def strB2 (s : List UInt8) : Blk := ⟨9, true, [.pv (.str s)]⟩
@[go_sem] def atB2 (a : Int) : Blk := ⟨3, true, [.int .i64 a]⟩
theorem rdn_v (s : List UInt8) (hs : s.length ≤ 1000000000) (a k : Nat) (hk : 1 ≤ k ∧ k ≤ 8) (hb : a + k ≤ s.length) : VCalls prog 66 [.int .i64 k, .ptr 0 0, .ptr 1 0] [strB2 s, atB2 a] (fun r h' => r = .int .i64 (numV s a k) ∧ h' = [strB2 s, atB2 (a + k)]) := by
  refine vcalls_keep (fn := Tryz.f66) Tryz.func66 rfl (by kernel_rfl) (by simp [Tryz.f66]) ?_
  have c1 := get_v s hs a k hk hb
  have hN : IntKind.i64.wrap (accX s a k) = numV s a k := rfl
  rw [hN] at c1
  generalize numV s a k = n at *
  (unfold Tryz.f66; refine rn trivial ?_)
  refine rn F ?_
  repeat' (first
    | with_reducible exact ⟨⟩
    | refine vp F (c1) ?_)
theorem hasPreR0 (s : List UInt8) (h4 : 4 ≤ s.length) : VCalls prog 77 [.pv (.str s), .pv (.str [80, 77, 82, 78])] [] (Ret (.bool (decide (s.take 4 = [80, 77, 82, 78])))) := by
  refine dd Tryz.func77 ?_
  (unfold Tryz.f77; refine rn trivial ?_)
  have F := @h4
  refine rn F ?_
  exact congrArg DV.bool (by rw [Bool.eq_iff_iff]; simp)
theorem hasPreR (s : List UInt8) (h4 : 4 ≤ s.length) : VCalls prog 65 [.pv (.str s), .pv (.str [80, 77, 82, 78])] [] (Ret (.bool (decide (s.take 4 = [80, 77, 82, 78])))) := by
  refine dd Tryz.func65 ?_
  have c1 := hasPreR0 s h4
  (unfold Tryz.f65; refine rn trivial ?_)
  refine rn F ?_
  repeat' (first
    | with_reducible exact ⟨⟩
    | refine vp F (c1) ?_)
  all_goals rfl
theorem rdhead_v {r : Rq} (h : Run r) : VCalls prog 40 [.pv (.str (headB r))] [] (Ret (.tup [.agg [.int .i64 r.fr, .int .i64 r.to, .int .i64 r.lo, .int .i64 r.hi, .int .i64 r.lv, .pv (.slc [])], .int .i64 r.es.length, .bool true])) := by
  refine dd Tryz.func40 ?_
  have hl := headB_len r
  have hle := h.len
  obtain ⟨n1, n2, n3, n4, n5, n6⟩ := head_num h
  have hp : (headB r).take 4 = [80, 77, 82, 78] := by unfold headB; simp [putL]
  have c0 := hasPreR (headB r) (by omega)
  rw [hp, show decide (([80, 77, 82, 78] : List UInt8) = [80, 77, 82, 78]) = true from rfl] at c0
  have c1 := rdn_v (headB r) (by omega) 4 8 (by omega) (by omega)
  have c2 := rdn_v (headB r) (by omega) 12 8 (by omega) (by omega)
  have c3 := rdn_v (headB r) (by omega) 20 4 (by omega) (by omega)
  have c4 := rdn_v (headB r) (by omega) 24 4 (by omega) (by omega)
  have c5 := rdn_v (headB r) (by omega) 28 1 (by omega) (by omega)
  have c6 := rdn_v (headB r) (by omega) 29 4 (by omega) (by omega)
  rw [n1] at c1
  rw [n2] at c2
  rw [n3] at c3
  rw [n4] at c4
  rw [n5] at c5
  rw [n6] at c6
  generalize headB r = s at *
  (unfold Tryz.f40; refine rn trivial ?_)
  have F := @hl
  refine rn F ?_
  repeat' (first
    | with_reducible exact ⟨⟩
    | refine vp F (c0) ?_)
  refine vc_two 0 2 c1 rfl rfl (by decide) ⟨rfl, rfl⟩ ⟨rfl, rfl⟩ rfl rfl rfl rfl rfl ?_
  have F := (And.intro @hl @hle)
  refine rn F ?_
  refine vc_two 0 2 c2 rfl rfl (by decide) ⟨rfl, rfl⟩ ⟨rfl, rfl⟩ rfl rfl rfl rfl rfl ?_
  have F := (And.intro @hl @hle)
  refine rn F ?_
  refine vc_two 0 2 c3 rfl rfl (by decide) ⟨rfl, rfl⟩ ⟨rfl, rfl⟩ rfl rfl rfl rfl rfl ?_
  have F := (And.intro @hl @hle)
  refine rn F ?_
  refine vc_two 0 2 c4 rfl rfl (by decide) ⟨rfl, rfl⟩ ⟨rfl, rfl⟩ rfl rfl rfl rfl rfl ?_
  have F := (And.intro @hl @hle)
  refine rn F ?_
  refine vc_two 0 2 c5 rfl rfl (by decide) ⟨rfl, rfl⟩ ⟨rfl, rfl⟩ rfl rfl rfl rfl rfl ?_
  have F := (And.intro @hl @hle)
  refine rn F ?_
  refine vc_two 0 2 c6 rfl rfl (by decide) ⟨rfl, rfl⟩ ⟨rfl, rfl⟩ rfl rfl rfl rfl rfl ?_
  have F := (And.intro @hl @hle)
  (refine rn F ?_; try with_reducible exact ⟨⟩)
end
section
attribute [local go_sem] Rq.c
theorem bys_len {r : Rq} (h : Run r) : (bysR r).length ≤ 500000 := by
  have h1 := szG_le r.es fun e he => ⟨(h.ok e he).1, (h.ok e he).2.1⟩
  have h2 := h.len
  rw [bysR_len]
  omega
theorem bys_unf {r : Rq} (h : Run r) (i : Nat) (hi : i < r.es.length) : unf (bysR r) ((41 + szG (r.es.take i) : Nat) : Int) = (encBy (r.es.getD i E0), ((41 + szG (r.es.take (i + 1)) : Nat) : Int), 0) := by
  have h1 := unf_fr (headR r) (fun e he => (h.ok e he).1) i hi []
  rw [headR_len, List.append_nil] at h1
  exact h1
theorem run_ok {r : Rq} (h : Run r) (i : Nat) (hi : i < r.es.length) : (r.es.getD i E0).okB = true := by
  rw [getD_eq _ _ hi]; exact (h.ok _ (List.getElem_mem hi)).1
theorem rndec_v {r : Rq} (hB : runB r = true) : VCalls prog 21 [.pv (.str (bysR r))] [] (Ret (.tup [.agg r.c, .int .i64 0])) := by
  refine VCalls.unwk ?_
  refine dd Tryz.func21 ?_
  have h := runB_run hB
  have hle := h.len
  have hl := bys_len h
  have c1 := unframe_v (bysR r) (by omega) 0
  have hu : unf (bysR r) 0 = (headB r, 41, 0) := head_unf r _
  unfold unfR at c1
  rw [hu] at c1
  have c2 := rdhead_v h
  have hU := bys_unf h
  have c3 := fun i => unframe_v (bysR r) (by omega) ((41 + szG (r.es.take i) : Nat) : Int)
  unfold unfR at c3
  have hD := fun i hi => dec_ok _ (run_ok h i hi)
  have hQ := fun i hi => encBy_len (run_ok h i hi)
  have hbl := bysR_len r
  have c5 := rnvalid_v r (by omega)
  rw [hB] at c5
  generalize bysR r = s at *
  obtain ⟨fr, to, lo, hi, lv, es⟩ := r
  dsimp only at *
  unfold Rq.c at c5 ⊢
  dsimp only at c5 ⊢
  (unfold Tryz.f21; refine rn trivial ?_)
  refine rn F ?_
  repeat' (first
    | with_reducible exact ⟨⟩
    | refine vp F (c1) ?_
    | refine vp F (c2) ?_)
  refine VLoop.nilOwnC 1 5 46 13 rfl rfl ?_
  refine rn trivial ?_
  refine vloopW (fun s0 : To es.length => ⟨73, 0, [(32, .int .i64 s0.i), (31, .int .i64 es.length), (7, .ptr 1 0), (5, .int .i64 ((41 + szG (es.take s0.i) : Nat) : Int)), (2, .ptr 0 0), (0, .pv (.str s))], [⟨26, true, [.int .i64 0, .int .i64 0, .int .i64 0, .int .i64 0, .int .i64 0, .pv (.slc [])]⟩, ⟨26, true, [.int .i64 fr, .int .i64 to, .int .i64 lo, .int .i64 hi, .int .i64 lv, .own 2 13 0 s0.i]⟩, ⟨46, true, cells encE (es.take s0.i)⟩]⟩) (fun s0 => es.length - s0.i) ⟨0, Nat.zero_le _⟩ (gc [0, 1, 2]) ?_
  rintro ⟨i, hi⟩
  dsimp only
  have htl : (es.take i).length = i := by rw [List.length_take]; omega
  by_cases hin : i < es.length
  · have c3 := c3 i
    rw [hU i hin] at c3
    have hq := hQ i hin
    have c4 := jdecode_v (encBy (es.getD i E0)) (by omega)
    rw [hD i hin] at c4
    have hb : (i + 1) * 128 ≤ 140737488355328 := by omega
    have htk : es.take i ++ [es.getD i E0] = es.take (i + 1) := by rw [List.take_succ_eq_append_getElem hin, getD_eq _ _ hin]
    have hall := allE (es.take i) (i * 13) (by omega)
    have hcl := lenE (es.take i)
    rw [htl] at hcl
    generalize es.getD i E0 = e at *
    generalize 41 + szG (es.take i) = a0 at *
    have F := (And.intro @hb (And.intro @htk (And.intro @hcl @hall)))
    refine rn F ?_
    repeat' (first
      | with_reducible exact ⟨⟩
      | refine vp F (c3) ?_
      | refine vp F (c4) ?_)
    exact ⟨⟨i + 1, by omega⟩, by dsimp only; omega, (gc [0, 1, 5])⟩
  · obtain rfl : i = es.length := by omega
    rw [List.take_length]
    have F := @hbl
    refine rn F ?_
    repeat' (first
      | with_reducible exact ⟨⟩
      | refine vl F (c5) ?_)
end
section
attribute [local go_sem] Rq.c
def encRo : Enc Ro := ⟨6, fun r => [.lit (.int .i64 r.pg), .lit (.int .i64 r.ct), .lit (.int .i64 r.f), .lit (.int .i64 r.l), .lit (.int .i64 r.a), .lit (.int .i64 r.sz)], by decide, fun _ => rfl⟩
theorem lenRo (l : List Ro) : (cells encRo l).length = l.length * 6 := cells_len encRo l
theorem allRo (l : List Ro) (n : Nat) (h : l.length * 6 ≤ n) : (cells encRo l).take n = cells encRo l := by rw [List.take_of_length_le]; rw [lenRo]; exact h
theorem frzRo {n : Nat} {hp : Heap} {len : Nat} {l : List Ro} (h : l.length = len) : frzC n hp 0 6 len (some (cells encRo l)) = some (.sl (fz encRo l)) := frzC_cells encRo h
@[go_sem] def Ro.d (r : Ro) : List DV := [.int .i64 r.pg, .int .i64 r.ct, .int .i64 r.f, .int .i64 r.l, .int .i64 r.a, .int .i64 r.sz]
@[go_sem] def Ix.c (x : Ix) : List DV := [.int .i64 x.fr, .int .i64 x.to, .int .i64 x.lo, .int .i64 x.hi, .int .i64 x.lv, .int .u64 x.fil, .pv (.sl (fz encRo x.ro))]
theorem app_Ro (l : List Ro) (a b c d e f : Int) : cells encRo l ++ [.pv (.lit (.int .i64 a)), .pv (.lit (.int .i64 b)), .pv (.lit (.int .i64 c)), .pv (.lit (.int .i64 d)), .pv (.lit (.int .i64 e)), .pv (.lit (.int .i64 f))] = cells encRo (l ++ [⟨a, b, c, d, e, f⟩]) := by rw [cells_app]; rfl
attribute [go_sem] lenRo allRo frzRo app_Ro
theorem fzRo_g (l : List Ro) (i : Nat) (h : i < l.length) : (fz encRo l)[i]? = some [.lit (.int .i64 (l.getD i Ro0).pg), .lit (.int .i64 (l.getD i Ro0).ct), .lit (.int .i64 (l.getD i Ro0).f), .lit (.int .i64 (l.getD i Ro0).l), .lit (.int .i64 (l.getD i Ro0).a), .lit (.int .i64 (l.getD i Ro0).sz)] := fz_getD encRo l Ro0 i h
theorem oget (l : List Ro) (z : Ro) (j : Nat) (hj : j < 6) : (cells encRo (l ++ [z]))[l.length * 6 + j]? = ((encRo.enc z).map DV.pv)[j]? := by
  rw [cells_app, List.getElem?_append_right (by rw [lenRo]; omega), lenRo, Nat.add_sub_cancel_left]
  show (((encRo.enc z).map DV.pv) ++ [])[j]? = _
  rw [List.append_nil]
theorem oset (l : List Ro) (z t : Ro) (j : Nat) (hj : j < 6) (p : PV) (h : encRo.enc t = (encRo.enc z).set j p) : (cells encRo (l ++ [z])).set (l.length * 6 + j) (.pv p) = cells encRo (l ++ [t]) := by
  rw [cells_app, List.set_append_right _ _ (by rw [lenRo]; omega), lenRo, Nat.add_sub_cancel_left, cells_app]
  congr 1
  show (((encRo.enc z).map DV.pv) ++ []).set j (.pv p) = ((encRo.enc t).map DV.pv) ++ []
  rw [List.append_nil, List.append_nil, h, List.map_set]
theorem gs_len : ∀ {gs : List (List E)}, gOk gs → gs.length ≤ gs.flatten.length
  | [], _ => Nat.le_refl _
  | g :: t, h => by
    have := gs_len h.2.2.2
    have := List.length_pos_iff.2 h.1
    rw [List.flatten_cons, List.length_append, List.length_cons]
    omega
theorem ro_len {es : List E} (hpw : es.Pairwise fun a b => a.c.pg ≤ b.c.pg) (i : Nat) : (rosG 41 (grps (es.take i))).length ≤ i := by
  obtain ⟨hk, hf⟩ := grps_ok (hpw.sublist (List.take_sublist i es))
  have := gs_len hk
  rw [hf, List.length_take] at this
  rw [rosG_len]
  omega
theorem take_last (es : List E) (i : Nat) (h0 : 0 < i) (h : i ≤ es.length) : (es.take i).getLastD E0 = es.getD (i - 1) E0 := by
  rw [List.getLastD_eq_getLast?, List.getLast?_eq_getElem?, List.length_take, Nat.min_eq_left h, List.getElem?_take, if_pos (by omega), List.getD_eq_getElem?_getD]
theorem ro_step {es : List E} (hpw : es.Pairwise fun a b => a.c.pg ≤ b.c.pg) (i : Nat) (hin : i < es.length) :
    ((i = 0 ∨ (es.getD (i - 1) E0).c.pg < (es.getD i E0).c.pg) → rosG 41 (grps (es.take (i + 1))) = rosG 41 (grps (es.take i)) ++ [⟨(es.getD i E0).c.pg, 1, (es.getD i E0).lsn, (es.getD i E0).lsn, ((41 + szG (es.take i) : Nat) : Int), ((szG [es.getD i E0] : Nat) : Int)⟩]) ∧
    (¬ (i = 0 ∨ (es.getD (i - 1) E0).c.pg < (es.getD i E0).c.pg) → ∃ init z, rosG 41 (grps (es.take i)) = init ++ [z] ∧ rosG 41 (grps (es.take (i + 1))) = init ++ [⟨z.pg, z.ct + 1, z.f, (es.getD i E0).lsn, z.a, z.sz + ((szG [es.getD i E0] : Nat) : Int)⟩] ∧ (0 ≤ z.ct ∧ z.ct ≤ (i : Int) ∧ 0 ≤ z.sz ∧ z.sz ≤ ((szG (es.take i) : Nat) : Int))) := by
  have hp2 : (es.take i).Pairwise fun a b => a.c.pg ≤ b.c.pg := hpw.sublist (List.take_sublist _ _)
  obtain ⟨hk, hf⟩ := grps_ok hp2
  rw [grps_succ es i hin]
  have hlast := take_last es i
  refine ⟨fun hc => ?_, fun hc => ?_⟩
  · have hn : grps (es.take i) = [] ∨ ((grps (es.take i)).flatten.getLastD E0).c.pg ≠ (es.getD i E0).c.pg := by
      by_cases h0 : i = 0
      · subst h0; exact .inl rfl
      · rw [hf, hlast (by omega) (by omega)]
        exact .inr (by omega)
    rw [rosG_new _ _ _ hk hn, hf]
    congr 3
  · have hpe : (es.getD (i - 1) E0).c.pg ≤ (es.getD i E0).c.pg := by
      have := List.pairwise_iff_getElem.1 hpw (i - 1) i (by omega) hin (by omega)
      rwa [getD_eq _ _ hin, getD_eq _ _ (show i - 1 < es.length by omega)]
    have hne : grps (es.take i) ≠ [] := fun e => by
      rw [e] at hf
      have := congrArg List.length hf
      rw [List.length_take] at this
      simp at this
      omega
    obtain ⟨init, z, e1, e2, e3⟩ := rosG_old (grps (es.take i)) 41 (es.getD i E0) hk hne (by rw [hf, hlast (by omega) (by omega)]; omega)
    refine ⟨init, z, e1, e3, ?_⟩
    have hz := rosG_at (grps (es.take i)) 41 init.length (by omega)
    rw [e1, List.getD_eq_getElem?_getD, List.getElem?_append_right (Nat.le_refl _), Nat.sub_self] at hz
    have hz : z = _ := hz
    have hfl := flat_at (grps (es.take i)) init.length (by omega)
    rw [hf] at hfl
    generalize (grps (es.take i)).getD init.length [] = g at *
    have l1 := congrArg List.length hfl
    have l2 := congrArg szG hfl
    rw [szG_app, szG_app] at l2
    rw [List.length_take, List.length_append, List.length_append] at l1
    rw [hz]
    simp only [roG]
    omega
theorem bys_sz {r : Rq} (h : Run r) (i : Nat) (hi : i < r.es.length) : szG (r.es.take (i + 1)) ≤ 500000 := by
  have h1 := szG_le (r.es.take (i + 1)) fun e he => ⟨(h.ok e (List.mem_of_mem_take he)).1, (h.ok e (List.mem_of_mem_take he)).2.1⟩
  have h2 := h.len
  rw [List.length_take] at h1
  omega
theorem rixbuild_v {r : Rq} (hB : runB r = true) : VCalls prog 10 [.pv (.str (bysR r))] [] (Ret (.tup [.agg (idx r).c, .int .i64 0])) := by
  refine VCalls.unwk ?_
  refine dd Tryz.func10 ?_
  have h := runB_run hB
  have hle := h.len
  have hl := bys_len h
  have c1 := rndec_v hB
  have hU := bys_unf h
  have c3 := fun i => unframe_v (bysR r) (by omega) ((41 + szG (r.es.take i) : Nat) : Int)
  unfold unfR at c3
  have hpw := run_pw h
  generalize bysR r = s at *
  unfold idx rosR
  obtain ⟨fr, to, lo, hi, lv, es⟩ := r
  dsimp only at *
  (unfold Tryz.f10; refine rn trivial ?_)
  refine rn F ?_
  repeat' (first
    | with_reducible exact ⟨⟩
    | refine vp F (c1) ?_)
  refine VLoop.nilOwnC 2 6 39 6 rfl rfl ?_
  refine rn trivial ?_
  have hpg := fun i hi => (h.ok (es.getD i E0) (by rw [getD_eq _ _ hi]; exact List.getElem_mem hi))
  have hd := h.hd
  dsimp only at hpg hd
  refine vloopW (fun s0 : To es.length => ⟨117, 0, [(37, .int .i64 s0.i), (36, .int .i64 es.length), (35, .pv (.sl (fz encE es))), (7, .int .i64 ((41 + szG (es.take s0.i) : Nat) : Int)), (6, .ptr 2 0), (4, .ptr 1 0), (2, .ptr 0 0), (0, .pv (.str s))], [⟨34, true, [.int .i64 0, .int .i64 0, .int .i64 0, .int .i64 0, .int .i64 0, .int .u64 0, .pv (.slc [])]⟩, ⟨26, true, [.int .i64 fr, .int .i64 to, .int .i64 lo, .int .i64 hi, .int .i64 lv, .pv (.sl (fz encE es))]⟩, ⟨34, true, [.int .i64 fr, .int .i64 to, .int .i64 lo, .int .i64 hi, .int .i64 lv, .int .u64 (filS (rosG 41 (grps (es.take s0.i)))), .own 3 6 0 (rosG 41 (grps (es.take s0.i))).length]⟩, ⟨39, true, cells encRo (rosG 41 (grps (es.take s0.i)))⟩]⟩) (fun s0 => es.length - s0.i) ⟨0, Nat.zero_le _⟩ (gc [0, 1, 2, 3]) ?_
  rintro ⟨i, hi⟩
  dsimp only
  by_cases hin : i < es.length
  rotate_left
  · obtain rfl : i = es.length := by omega
    rw [List.take_length]
    (refine rn F ?_; try with_reducible exact ⟨⟩)
  have c3 := c3 i
  rw [hU i hin] at c3
  obtain ⟨t1, t2⟩ := ro_step hpw i hin
  have hpg := hpg i hin
  have hsz := szG_take es i hin
  rw [← szG_one] at hsz
  rw [hsz] at c3
  have hbl := hl
  have hsl := bys_sz h i hin
  dsimp only at hsl c3
  rw [hsz] at hsl
  have hrl := ro_len hpw i
  have hg := fzE_g es i hin
  have hgp := fun h : i - 1 < es.length => fzE_g es (i - 1) h
  by_cases hc : i = 0 ∨ (es.getD (i - 1) E0).c.pg < (es.getD i E0).c.pg
  · have t1 := t1 hc
    generalize rosG 41 (grps (es.take i)) = rows at *
    generalize es.getD i E0 = e at *
    generalize szG [e] = n at *
    generalize szG (es.take i) = m at *
    have hb : (rows.length + 1) * 48 ≤ 140737488355328 := by omega
    have q0 : rows.length + 1 - 1 = rows.length := rfl
    have q1 : rows.length * 6 + 1 < (rows.length + 1) * 6 := by omega
    have q3 : rows.length * 6 + 3 < (rows.length + 1) * 6 := by omega
    have q5 : rows.length * 6 + 5 < (rows.length + 1) * 6 := by omega
    have g1 : ∀ z : Ro, (cells encRo (rows ++ [z]))[rows.length * 6 + 1]? = some (.pv (.lit (.int .i64 z.ct))) := fun z => oget rows z 1 (by decide)
    have g5 : ∀ z : Ro, (cells encRo (rows ++ [z]))[rows.length * 6 + 5]? = some (.pv (.lit (.int .i64 z.sz))) := fun z => oget rows z 5 (by decide)
    have s1 := fun (z : Ro) (x : Int) => oset rows z { z with ct := x } 1 (by decide) (.lit (.int .i64 x)) rfl
    have s3 := fun (z : Ro) (x : Int) => oset rows z { z with l := x } 3 (by decide) (.lit (.int .i64 x)) rfl
    have s5 := fun (z : Ro) (x : Int) => oset rows z { z with sz := x } 5 (by decide) (.lit (.int .i64 x)) rfl
    have hdf : ((41 + (m + n) : Nat) : Int) - ((41 + m : Nat) : Int) = n := by omega
    have F := (And.intro @hg (And.intro @hgp (And.intro @hb (And.intro @q0 (And.intro @q1 (And.intro @q3 (And.intro @q5 (And.intro @g1 (And.intro @g5 (And.intro @s1 (And.intro @s3 (And.intro @s5 @hdf))))))))))))
    refine rn F ?_
    repeat' (first
      | with_reducible exact ⟨⟩
      | (refine sG F ?_ ?_ <;> intro hZ)
      | refine vp F (c3) ?_
      | (refine vspine (id := 10) [0, 1, 2, 3, 4, 5, 6, 7, 8, 9, 10, 11, 12, 13, 14, 15] [] (by kernel_rfl) (by kernel_rfl) ?_; refine rn F ?_)
      | (refine vspine (id := 12) [0, 1, 2, 3, 4, 5, 6, 7] [⟨[], [], 8, [], []⟩] (by kernel_rfl) (by kernel_rfl) ?_; refine rn F ?_))
    all_goals first
      | (exfalso; omega)
      | (refine ⟨⟨i + 1, by omega⟩, by dsimp only; omega, ?_⟩
         dsimp only
         rw [t1, hsz, filS_snoc, List.length_append, Int.zero_add]
         exact (gc [0, 1, 2, 6]))
  · obtain ⟨init, z, e1, e2, z1, z2, z3, z4⟩ := t2 hc
    rw [e1] at hrl ⊢
    rw [List.length_append] at hrl
    simp only [List.length_cons, List.length_nil] at hrl
    generalize es.getD i E0 = e at *
    generalize szG [e] = n at *
    generalize szG (es.take i) = m at *
    have hb : (init.length + 1) * 48 ≤ 140737488355328 := by omega
    have q0 : init.length + 1 - 1 = init.length := rfl
    have q1 : init.length * 6 + 1 < (init.length + 1) * 6 := by omega
    have q3 : init.length * 6 + 3 < (init.length + 1) * 6 := by omega
    have q5 : init.length * 6 + 5 < (init.length + 1) * 6 := by omega
    have g1 : ∀ z : Ro, (cells encRo (init ++ [z]))[init.length * 6 + 1]? = some (.pv (.lit (.int .i64 z.ct))) := fun z => oget init z 1 (by decide)
    have g5 : ∀ z : Ro, (cells encRo (init ++ [z]))[init.length * 6 + 5]? = some (.pv (.lit (.int .i64 z.sz))) := fun z => oget init z 5 (by decide)
    have s1 := fun (z : Ro) (x : Int) => oset init z { z with ct := x } 1 (by decide) (.lit (.int .i64 x)) rfl
    have s3 := fun (z : Ro) (x : Int) => oset init z { z with l := x } 3 (by decide) (.lit (.int .i64 x)) rfl
    have s5 := fun (z : Ro) (x : Int) => oset init z { z with sz := x } 5 (by decide) (.lit (.int .i64 x)) rfl
    have hdf : ((41 + (m + n) : Nat) : Int) - ((41 + m : Nat) : Int) = n := by omega
    have hil : (init ++ [z]).length = init.length + 1 := List.length_append
    rw [hil]
    have F := (And.intro @hg (And.intro @hgp (And.intro @hb (And.intro @q0 (And.intro @q1 (And.intro @q3 (And.intro @q5 (And.intro @g1 (And.intro @g5 (And.intro @s1 (And.intro @s3 (And.intro @s5 @hdf))))))))))))
    refine rn F ?_
    repeat' (first
      | with_reducible exact ⟨⟩
      | refine vp F (c3) ?_
      | (refine vspine (id := 10) [0, 1, 2, 3, 4, 5, 6, 7, 8, 9, 10, 11, 12, 13, 14, 15] [] (by kernel_rfl) (by kernel_rfl) ?_; refine rn F ?_))
    all_goals first
      | (exfalso; omega)
      | (refine ⟨⟨i + 1, by omega⟩, by dsimp only; omega, ?_⟩
         dsimp only
         rw [e2, hsz, filS_snoc, filS_snoc, List.length_append]
         exact (gc [0, 1, 2, 3]))
end
section
attribute [local go_sem] Rq.c
def lastP (r : Rq) (i : Nat) : Int := if i = 0 then r.lo - 1 else pgG ((grps r.es).getD (i - 1) [])
theorem ros_le {r : Rq} (h : Run r) : (rosR r).length ≤ 4096 := by
  have h1 := gs_len (run_grps h).1
  rw [(run_grps h).2] at h1
  rw [rosR_len]
  exact Nat.le_trans h1 h.len
theorem lastP_lt {r : Rq} (h : Run r) (i : Nat) (hi : i < (grps r.es).length) : lastP r i < pgG ((grps r.es).getD i []) := by
  unfold lastP
  split
  · have := (run_grp h i hi).row; omega
  · exact (gOk_at (run_grps h).1 (i - 1) (by omega)).2.2 i (by omega) hi
theorem num_ok {r : Rq} (h : Run r) : runB ⟨r.fr, r.to, r.lo, r.hi, r.lv, []⟩ = true := by
  have := h.hd
  unfold runB numB
  simp
  omega
theorem row_at {r : Rq} (h : Run r) (i : Nat) (hi : i < (grps r.es).length) : ∃ g, (grps r.es).getD i [] = g ∧ Grp r g ∧ (rosR r).getD i Ro0 = roG ((41 + szG ((grps r.es).take i).flatten : Nat) : Int) g ∧
    szG ((grps r.es).take (i + 1)).flatten = szG ((grps r.es).take i).flatten + szG g ∧ ((grps r.es).take (i + 1)).flatten.length = ((grps r.es).take i).flatten.length + g.length ∧
    szG ((grps r.es).take (i + 1)).flatten ≤ 500000 ∧ ((grps r.es).take (i + 1)).flatten.length ≤ 4096 := by
  refine ⟨_, rfl, run_grp h i hi, ?_, ?_, ?_, ?_, ?_⟩
  · rw [rosR_at r i hi]; rfl
  · rw [take_flat_succ _ _ hi, szG_app]
  · rw [take_flat_succ _ _ hi, List.length_append]
  · have h1 := szG_flat_le (grps r.es) (i + 1)
    rw [(run_grps h).2] at h1
    have h2 := szG_le r.es fun e he => ⟨(h.ok e he).1, (h.ok e he).2.1⟩
    have h3 := h.len
    omega
  · have h1 := flat_le (grps r.es) (i + 1)
    rw [(run_grps h).2] at h1
    exact Nat.le_trans h1 h.len
theorem fil_at (r : Rq) (i : Nat) (hi : i < (rosR r).length) : bits .or .u64 (filS ((rosR r).take i)) (IntKind.u64.wrap (1 * 2 ^ min ((rosR r).getD i Ro0).pg.toNat 64)) = filS ((rosR r).take (i + 1)) := by
  rw [List.take_succ_eq_append_getElem hi, filS_snoc, getD_eq _ _ hi]; rfl
theorem rixvalR_v {r : Rq} (h : Run r) : VCalls prog 18 [.agg (idx r).c] [] (Ret (.bool true)) := by
  refine dd Tryz.func18 ?_
  have c0 := rnvalid_v ⟨r.fr, r.to, r.lo, r.hi, r.lv, []⟩ (Nat.zero_le _)
  rw [num_ok h] at c0
  have c1 : VCalls prog 32 [.agg [.int .i64 r.fr, .int .i64 r.to, .int .i64 r.lo, .int .i64 r.hi, .int .i64 r.lv, .pv (.slc [])]] [] (Ret (.bool true)) := VCalls.wkA c0
  have hrow := row_at h
  have hlp := lastP_lt h
  have hlen := rosR_len r
  have hrl := ros_le h
  have hfl := fil_at r
  have hd := h.hd
  unfold idx
  (unfold Tryz.f18; refine rn trivial ?_)
  refine rn F ?_
  repeat' (first
    | with_reducible exact ⟨⟩
    | refine vp F (c1) ?_
    | (refine vspine (id := 3) [0, 1, 2] [⟨[], [], 3, [0, 1, 2], []⟩, ⟨[], [], 4, [0, 1, 2], []⟩, ⟨[], [], 5, [], []⟩, ⟨[], [], 6, [], []⟩] (by kernel_rfl) (by kernel_rfl) ?_; refine rn F ?_))
  refine vloopW (fun s : To (rosR r).length => ⟨114, 0, [(28, .int .i64 s.i), (27, .int .i64 (rosR r).length), (26, .pv (.sl (fz encRo (rosR r)))), (6, .int .u64 (filS ((rosR r).take s.i))), (5, .int .i64 (lastP r s.i)), (4, .int .i64 ((grps r.es).take s.i).flatten.length), (3, .int .i64 ((41 + szG ((grps r.es).take s.i).flatten : Nat) : Int)), (1, .ptr 0 0)], [⟨34, true, [.int .i64 r.fr, .int .i64 r.to, .int .i64 r.lo, .int .i64 r.hi, .int .i64 r.lv, .int .u64 (filS (rosR r)), .pv (.sl (fz encRo (rosR r)))]⟩]⟩) (fun s => (rosR r).length - s.i) ⟨0, Nat.zero_le _⟩ (gc [0]) ?_
  rintro ⟨i, hi⟩
  dsimp only
  by_cases hin : i < (rosR r).length
  · obtain ⟨g, e1, e2, e3, e4, e5, e6, e7⟩ := hrow i (by omega)
    have hlp := hlp i (by omega)
    have hfl := hfl i hin
    have hg := fzRo_g (rosR r) i hin
    rw [e3] at hg hfl
    rw [e1] at hlp
    dsimp only [roG] at hg hfl
    have hR := e2.row
    have hn : lastP r (i + 1) = pgG g := by unfold lastP; rw [if_neg (by omega), Nat.add_sub_cancel, e1]
    have hm := e2.last
    generalize pgG g = p at *
    generalize (g.headD E0).lsn = l1 at *
    generalize (g.getLastD E0).lsn = l2 at *
    generalize szG g = n at *
    generalize g.length = k at *
    generalize szG ((grps r.es).take i).flatten = m at *
    have ha : ((41 + m : Nat) : Int) + (n : Int) = ((41 + (m + n) : Nat) : Int) := by omega
    have hk : ((((grps r.es).take i).flatten.length : Nat) : Int) + (k : Int) = ((((grps r.es).take i).flatten.length + k : Nat) : Int) := by omega
    have F := (And.intro @hg (And.intro @hfl (And.intro @ha @hk)))
    refine rn F ?_
    all_goals first
      | (exfalso; omega)
      | (refine ⟨⟨i + 1, by omega⟩, by dsimp only; omega, ?_⟩
         dsimp only
         rw [hn, e5, e4]
         exact (gc [0]))
  · obtain rfl : i = (rosR r).length := by omega
    rw [List.take_length]
    have hcl := flat_le (grps r.es) (rosR r).length
    rw [(run_grps h).2] at hcl
    have hel := h.len
    have F := trivial
    (refine rn F ?_; try with_reducible exact True.intro)
    all_goals first | rfl | (exfalso; omega)
end
@[go_sem] def pgB (p : Int) : Blk := ⟨3, true, [.int .i64 p]⟩
theorem vc_pg {g : FuncId} {args : List DV} {hp : Heap} {k : Nat} {p : Int} {d : DV} {K : DV → Heap → Prop} (h : VCalls prog g (args.map (DV.ren fun _ => 0)) [pgB p] (RC (pgB p) d)) (hk : hp[k]? = some (pgB p))
    (ha : DV.nums.go (fun i => i == k) args = true) (hK : K d (hp.set k (pgB p))) : VCalls prog g args hp K :=
  (VCalls.ptr1 (R := fun r B' => r = d ∧ B' = pgB p) hk rfl rfl h ha).mono fun r h' ⟨B', e1, _, _, e2, e3⟩ => by subst e1 e2 e3; exact hK
theorem rowfn_v (r : Ro) (p : Int) : VCalls prog 26 [.agg r.d, .ptr 0 0] [pgB p] (RC (pgB p) (.bool (decide (r.pg = p)))) := by
  refine dd Tryz.func26 ?_
  (unfold Tryz.f26; refine rn trivial ?_)
  exact ⟨_, rfl, rfl, rfl, rfl, by first | rfl | (congr 3; rw [Bool.eq_iff_iff]; simp), rfl⟩
theorem rowix_v (l : List Ro) (hl : l.length ≤ 1000000) (p : Int) : VCalls prog 25 [.pv (.sl (fz encRo l)), .fn (.func 26) [] [.ptr 0 0]] [pgB p] (RC (pgB p) (.int .i64 (idxP l fun r => r.pg == p))) := by
  refine dd Tryz.func25 ?_
  (unfold Tryz.f25; refine rn trivial ?_)
  refine vloopW (fun i : Pass l (fun x => (x.pg == p) = true) => ⟨19, 1, [(8, .int .i64 i.i), (7, .int .i64 l.length), (0, .pv (.sl (fz encRo l))), (1, .fn (.func 26) [] [.ptr 0 0])], [pgB p]⟩) (fun i => l.length - i.i) (Pass.start l _) (gc [0]) ?_
  intro i
  have hi := i.hi
  by_cases hin : i.i < l.length
  · have hg := fzRo_g l i.i hin
    have F := @hg
    refine rn F ?_
    refine vc_pg (k := 0) (rowfn_v (l.getD i.i Ro0) p) rfl rfl ?_
    by_cases hc : (l.getD i.i Ro0).pg = p
    · rw [decide_eq_true hc]
      have F := trivial
      refine rn F ?_
      have := idxP_at l (fun x => x.pg == p) i.i hin (by rw [← getD_eq l i.i hin Ro0]; simpa using hc) i.no
      exact ⟨_, rfl, rfl, rfl, rfl, by rw [this], rfl⟩
    · rw [decide_eq_false hc]
      have F := trivial
      refine rn F ?_
      exact ⟨i.next hin (by rw [← getD_eq l i.i hin Ro0]; simpa using hc), by show l.length - (i.i + 1) < l.length - i.i; omega, (gc [0])⟩
  · have := i.all hin
    have F := trivial
    refine rn F ?_
    exact ⟨_, rfl, rfl, rfl, rfl, by rw [idxP, if_neg (by simpa using this)], rfl⟩
def rowS (l : List Ro) (p : Int) : Ro × Bool := if (idxP l fun r => r.pg == p) < 0 then (Ro0, false) else (l.getD (idxP l fun r => r.pg == p).toNat Ro0, true)
theorem rxrow_v (x : Ix) (hl : x.ro.length ≤ 1000000) (p : Int) (hx : (idxP x.ro fun r => r.pg == p) < x.ro.length) : VCalls prog 13 [.agg x.c, .int .i64 p] [] (Ret (.tup [.agg (rowS x.ro p).1.d, .bool (rowS x.ro p).2])) := by
  refine dd Tryz.func13 ?_
  have c1 := rowix_v x.ro hl p
  unfold rowS
  generalize (idxP x.ro fun r => r.pg == p) = j at *
  (unfold Tryz.f13; refine rn trivial ?_)
  refine vc_pg (k := 1) c1 rfl rfl ?_
  by_cases hj : j < 0
  · rw [if_pos hj]
    have F := @hj
    (refine rn F ?_; try with_reducible exact True.intro)
    all_goals rfl
  · rw [if_neg hj]
    have hg := fzRo_g x.ro j.toNat (by omega)
    have F := (And.intro @hj @hg)
    (refine rn F ?_; try with_reducible exact True.intro)
    all_goals rfl
theorem rxright_v (l : List E) (hl : l.length ≤ 1000000) (h0 : 0 < l.length) (r : Ro) : VCalls prog 28 [.pv (.sl (fz encE l)), .agg r.d] [] (Ret (.bool (rightB l r))) := by
  refine dd Tryz.func28 ?_
  have hB : rightB l r = ((List.range l.length).all (rightC l r) && decide ((l.getD 0 E0).lsn = r.f) && decide ((l.getD (l.length - 1) E0).lsn = r.l)) := rfl
  have g0 := fzE_g l 0 h0
  have gl := fzE_g l (l.length - 1) (by omega)
  generalize rightB l r = B at *
  (unfold Tryz.f28; refine rn trivial ?_)
  refine vloopW (fun s : Okay l.length (rightC l r) => ⟨69, 0, [(9, .int .i64 s.i), (8, .int .i64 l.length), (7, .pv (.sl (fz encE l))), (3, .ptr 0 0), (0, .pv (.sl (fz encE l)))], [⟨39, true, r.d⟩]⟩) (fun s => l.length - s.i) (Okay.start _ _) (gc [0]) ?_
  intro s
  have hsi := s.hi
  have hg := fun h : s.i < l.length => fzE_g l s.i h
  have hgp := fun h : s.i - 1 < l.length => fzE_g l (s.i - 1) h
  have c2 := changes_v (l.getD s.i E0)
  have e : rightC l r s.i = (((l.getD s.i E0).kind == 1 || (l.getD s.i E0).kind == 2) && decide ((l.getD s.i E0).c.pg = r.pg) && (decide (s.i = 0) || (decide ((l.getD (s.i - 1) E0).lsn < (l.getD s.i E0).lsn) && decide ((l.getD s.i E0).ppg = (l.getD (s.i - 1) E0).lsn)))) := rfl
  generalize ((l.getD s.i E0).kind == 1 || (l.getD s.i E0).kind == 2) = b at *
  have F := (And.intro @hg (And.intro @hgp (And.intro @g0 @gl)))
  refine rn F ?_
  repeat' (first
    | with_reducible exact ⟨⟩
    | (refine sG F ?_ ?_ <;> intro hZ)
    | (refine sB F ?_ ?_ <;> intro hZ)
    | refine vp F (c2) ?_
    | (refine vspine (id := 6) [0, 1, 2, 3, 4, 5, 6, 7, 8, 9, 10, 11, 12, 13, 14, 15, 16, 17, 18, 19, 20, 21, 22, 23] [] (by kernel_rfl) (by kernel_rfl) ?_; refine rn F ?_)
    | (refine vspine (id := 9) [0, 1, 2, 3, 4, 5, 6, 7, 8, 9, 10, 11, 12, 13, 14, 15, 16, 17, 18] [⟨[], [], 19, [], []⟩] (by kernel_rfl) (by kernel_rfl) ?_; refine rn F ?_))
  all_goals first
    | (refine congrArg DV.bool (Eq.symm ?_); rw [hB, all_not (i := s.i) (by omega) ?_, Bool.false_and, Bool.false_and]; rw [e]; refine Bool.eq_false_iff.2 fun h => ?_; simp only [Bool.and_eq_true, Bool.or_eq_true, decide_eq_true_eq] at h; first | omega | (simp_all; done))
    | exact ⟨s.next (by omega) (by rw [e]; simp only [Bool.and_eq_true, Bool.or_eq_true, decide_eq_true_eq]; exact ⟨⟨by assumption, by omega⟩, by omega⟩), s.dec (by omega), (gc [0])⟩
    | (refine congrArg DV.bool (Eq.symm ?_); rw [hB, s.all (by omega), Bool.true_and, decide_eq_false (by omega), Bool.false_and]; done)
    | (refine congrArg DV.bool (Eq.symm ?_); rw [hB, s.all (by omega), Bool.true_and, decide_eq_true (by omega), Bool.true_and, Bool.eq_iff_iff]; simp; done)
    | skip
@[go_sem] def elD (a : List E × Int) : DV := .tup [.pv (.sl (fz encE a.1)), .int .i64 a.2]
theorem row_ix {r : Rq} (h : Run r) (i : Nat) (hi : i < (grps r.es).length) : (idxP (rosR r) fun x => x.pg == pgG ((grps r.es).getD i [])) = i := by
  have hl := rosR_len r
  refine idxP_at _ _ i (by omega) ?_ ?_
  · rw [← getD_eq (rosR r) i (by omega) Ro0, rosR_at r i hi]
    simp [roG]
  · intro x hx
    obtain ⟨j, hj, rfl⟩ := List.getElem_of_mem hx
    rw [List.length_take] at hj
    rw [List.getElem_take, ← getD_eq (rosR r) j (by omega) Ro0, rosR_at r j (by omega)]
    have := (gOk_at (run_grps h).1 j (by omega)).2.2 i (by omega) hi
    intro hc
    have hc := beq_iff_eq.1 hc
    change pgG _ = pgG _ at hc
    omega
theorem row_no {r : Rq} {p : Int} (hp : ∀ i, i < (grps r.es).length → pgG ((grps r.es).getD i []) ≠ p) : (idxP (rosR r) fun x => x.pg == p) = -1 := by
  have hl := rosR_len r
  unfold idxP
  rw [if_neg]
  intro h
  obtain ⟨x, hx, hp2⟩ := List.any_eq_true.1 h
  obtain ⟨j, hj, rfl⟩ := List.getElem_of_mem hx
  rw [← getD_eq (rosR r) j hj Ro0, rosR_at r j (by omega)] at hp2
  exact hp j (by omega) (by simpa [roG] using hp2)
structure Rdg (s : List UInt8) (n : Nat) where
  i : Nat
  o : List E
  a : Int
  hi : i ≤ n
  ho : o.length = i
  ok : rdF s i = some (o, a)
theorem Rdg.bad {s : List UInt8} {n : Nat} (x : Rdg s n) (h : x.i < n) (hx : (unf s x.a).2.2 ≠ 0 ∨ (decE (unf s x.a).1).2 ≠ 0) : rdF s n = none := by
  refine rdF_none (i := x.i + 1) ?_ h
  unfold rdF
  rw [x.ok]
  dsimp only
  rw [if_neg (by omega)]
def Rdg.next {s : List UInt8} {n : Nat} (x : Rdg s n) (h : x.i < n) (h1 : (unf s x.a).2.2 = 0) (h2 : (decE (unf s x.a).1).2 = 0) : Rdg s n :=
  ⟨x.i + 1, x.o ++ [(decE (unf s x.a).1).1], (unf s x.a).2.1, h, by rw [List.length_append, x.ho]; rfl, by
    unfold rdF
    rw [x.ok]
    dsimp only
    rw [if_pos ⟨h1, h2⟩]⟩
def findQ (part : List UInt8) (k : Nat) (z : Ro) (res : List E × Int) : Prop := (res.2 = 0 → ∃ b, rdF part k = some (res.1, b)) ∧ ∀ o, rdF part k = some (o, (part.length : Int)) → rightB o z = true → res = (o, 0)
theorem rxfind_no {r : Rq} (h : Run r) (t : List UInt8) (p : Int) (hp : 0 ≤ p ∧ p < 64) (hno : ∀ i, i < (grps r.es).length → pgG ((grps r.es).getD i []) ≠ p) : VCalls prog 14 [.pv (.str t), .agg (idx r).c, .int .i64 p] [] (Ret (elD ([], 0))) := by
  refine dk Tryz.func14 ?_
  have c1 := rixvalR_v h
  have hl := ros_le h
  have hx := row_no hno
  have c2 := rxrow_v (idx r) (by show (rosR r).length ≤ _; omega) p (by show (idxP (rosR r) fun x => x.pg == p) < _; rw [hx]; omega)
  have e : rowS (idx r).ro p = (Ro0, false) := by unfold rowS; rw [if_pos (by show (idxP (rosR r) fun x => x.pg == p) < 0; rw [hx]; decide)]
  rw [e] at c2
  generalize idx r = x at *
  (unfold Tryz.f14; refine rn trivial ?_)
  refine rn F ?_
  repeat' (first
    | with_reducible exact ⟨⟩
    | refine vp F (c1) ?_
    | refine vp F (c2) ?_)
  all_goals first | rfl | (exfalso; omega)
theorem rxfind_w {r : Rq} (h : Run r) (t : List UInt8) (ht : t.length ≤ 100000000) (i : Nat) (hi : i < (grps r.es).length) (g : List E) (he : (grps r.es).getD i [] = g) (a : Nat) (ha : a = 41 + szG ((grps r.es).take i).flatten) (hat : a + szG g ≤ t.length) : VCalls prog 14 [.pv (.str t), .agg (idx r).c, .int .i64 (pgG g)] [] (RetS elD (findQ ((t.take (a + szG g)).drop a) g.length (roG a g))) := by
  refine dk Tryz.func14 ?_
  have c1 := rixvalR_v h
  have hl := ros_le h
  have hx := row_ix h i hi
  have hG := run_grp h i hi
  rw [he] at hx hG
  have hrl := rosR_len r
  have c2 := rxrow_v (idx r) (by show (rosR r).length ≤ _; omega) (pgG g) (by show (idxP (rosR r) fun x => x.pg == pgG g) < _; rw [hx]; show (i : Int) < (rosR r).length; omega)
  have e : rowS (idx r).ro (pgG g) = (roG a g, true) := by
    unfold rowS
    rw [show (idxP (idx r).ro fun r => r.pg == pgG g) = i from hx, if_neg (by omega), Int.toNat_natCast, show (idx r).ro.getD i Ro0 = (rosR r).getD i Ro0 from rfl, rosR_at r i hi, he, ha]
    rfl
  rw [e] at c2
  have hR := hG.row
  have hd := h.hd
  generalize idx r = x at *
  generalize hz : roG a g = z at *
  have z1 : z.ct = g.length := by rw [← hz]; rfl
  have z2 : z.a = a := by rw [← hz]; rfl
  have z3 : z.sz = szG g := by rw [← hz]; rfl
  clear hz e
  generalize szG g = n at *
  generalize pgG g = p at *
  generalize hpt : (t.take (a + n)).drop a = part at *
  have hpl : part.length = n := by rw [← hpt, List.length_drop, List.length_take]; omega
  obtain ⟨zp, zc, zf, zl, za, zs⟩ := z
  dsimp only at z1 z2 z3 ⊢
  subst z1 z2 z3
  generalize hkn : g.length = k at *
  have hk2 : (a : Int).toNat = a := Int.toNat_natCast a
  have hk3 : ((a : Int) + (n : Int)).toNat = a + n := by omega
  (unfold Tryz.f14; refine rn trivial ?_)
  have F := (And.intro @hk2 (And.intro @hk3 @hpt))
  refine rn F ?_
  repeat' (first
    | with_reducible exact ⟨⟩
    | refine vp F (c1) ?_
    | refine vp F (c2) ?_)
  refine VLoop.nilOwn 12 46 13 rfl ?_
  refine vloopW (fun s0 : Rdg part k => ⟨94, 0, [(57, .int .i64 s0.i), (56, .int .i64 k), (12, .own 1 13 0 s0.i), (11, .int .i64 s0.a), (10, .pv (.str part)), (8, .ptr 0 0)], [⟨39, true, [.int .i64 zp, .int .i64 k, .int .i64 zf, .int .i64 zl, .int .i64 a, .int .i64 n]⟩, ⟨46, true, cells encE s0.o⟩]⟩) (fun s0 => k - s0.i) ⟨0, [], 0, Nat.zero_le _, rfl, rfl⟩ (gc [1, 2]) ?_
  intro s0
  have hsi := s0.hi
  have hso := s0.ho
  have hok := s0.ok
  by_cases hin : s0.i < k
  · have hbad := s0.bad hin
    have hu := unf_le part s0.a
    have c3 := unframe_v part (by omega) s0.a
    unfold unfR at c3
    generalize hU : unf part s0.a = u at *
    obtain ⟨u, b, er⟩ := u
    dsimp only at hu c3 hbad
    have c4 := jdecode_v u (by omega)
    generalize hD : decE u = D at *
    have hb : (s0.i + 1) * 128 ≤ 140737488355328 := by omega
    have hall := allE s0.o (s0.i * 13) (by omega)
    have hcl := lenE s0.o
    rw [hso] at hcl
    have F := (And.intro @hb (And.intro @hall @hcl))
    refine rn F ?_
    repeat' (first
      | with_reducible exact ⟨⟩
      | (refine sB F ?_ ?_ <;> intro hZ)
      | refine vp F (c3) ?_
      | refine vp F (c4) ?_)
    all_goals first
      | exact ⟨s0.next hin (by rw [hU]; show er = 0; omega) (by rw [hU]; show (decE u).2 = 0; rw [hD]; omega), by show k - (s0.i + 1) < k - s0.i; omega, by unfold Rdg.next; dsimp only; rw [hU]; dsimp only; rw [hD]; exact (gc [0, 4])⟩
      | exact ⟨rfl, rfl, ([], _), rfl, fun h0 => absurd h0 (by assumption), fun o ho _ => by rw [hbad (by omega)] at ho; cases ho⟩
      | skip
  · obtain ⟨i0, o, b, hi0, ho0, ok0⟩ := s0
    dsimp only at *
    obtain rfl : i0 = k := by omega
    have c5 := rxright_v o (by omega) (by omega) ⟨zp, i0, zf, zl, a, n⟩
    have huni : ∀ o2 b2, rdF part i0 = some (o2, b2) → o2 = o ∧ b2 = b := fun o2 b2 h2 => by
      rw [ok0] at h2
      simp only [Option.some.injEq, Prod.mk.injEq] at h2
      exact ⟨h2.1.symm, h2.2.symm⟩
    generalize hrb : rightB o ⟨zp, i0, zf, zl, a, n⟩ = rb at *
    have F := trivial
    refine rn F ?_
    repeat' (first
      | with_reducible exact ⟨⟩
      | (refine sB F ?_ ?_ <;> intro hZ)
      | refine vl F (c5) ?_)
    all_goals first
      | exact ⟨rfl, rfl, (o, 0), rfl, fun _ => ⟨b, ok0⟩, fun o2 h2 _ => by rw [(huni _ _ h2).1]⟩
      | exact ⟨rfl, rfl, ([], _), rfl, fun h0 => absurd h0 (by decide), fun o2 h2 h3 => by obtain ⟨e1, e2⟩ := huni _ _ h2; subst e1; first | (exfalso; omega) | (rw [hrb] at h3; simp_all)⟩
      | skip
section
attribute [local go_sem] allEq leafEq lenI allI appI slkI srcI frzI
theorem sidx_w (l : List Int) (hl : l.length ≤ 9223372036854775807) (p : Int) : VCalls prog 47 [.pv (.sl (fz encI l)), .int .i64 p] [] (RetS inD fun j => 0 ≤ j ↔ p ∈ l) := by
  refine dd Tryz.func47 ?_
  (unfold Tryz.f47; refine rn trivial ?_)
  refine vloopW (fun i : Pass l (fun x => x = p) => ⟨19, 0, [(8, .int .i64 i.i), (7, .int .i64 l.length), (0, .pv (.sl (fz encI l))), (1, .int .i64 p)], []⟩) (fun i => l.length - i.i) (Pass.start l _) (gc []) ?_
  intro i
  have hi := i.hi
  by_cases hin : i.i < l.length
  · have hg := fzI_get l i.i hin
    have hd := getD_eq l i.i hin 0
    have F := @hg
    refine rn F ?_
    repeat' (first
      | with_reducible exact ⟨⟩
      | (refine sB F ?_ ?_ <;> intro hZ))
    · exact ⟨rfl, rfl, (i.i : Int), rfl, fun _ => by rw [show p = l[i.i] by omega]; exact List.getElem_mem hin, fun _ => by omega⟩
    · exact ⟨i.next hin (by omega), by show l.length - (i.i + 1) < l.length - i.i; omega, (gc [])⟩
  · have hall := i.all hin
    have F := trivial
    refine rn F ?_
    exact ⟨rfl, rfl, -1, rfl, fun h => absurd h (by decide), fun h => absurd rfl (hall p h)⟩
theorem scont_v (l : List Int) (hl : l.length ≤ 9223372036854775807) (p : Int) : VCalls prog 24 [.pv (.sl (fz encI l)), .int .i64 p] [] (Ret (.bool (decide (p ∈ l)))) := by
  refine dd Tryz.func24 ?_
  have c1 := sidx_w l hl p
  (unfold Tryz.f24; refine rn trivial ?_)
  refine vc_S c1 rfl ?_
  rintro j hj
  refine rn F ?_
  exact congrArg DV.bool (by rw [Bool.eq_iff_iff, decide_eq_true_eq, decide_eq_true_eq]; exact hj)
theorem ros_row {r : Rq} (h : Run r) : ∀ x ∈ rosR r, (0 ≤ x.sz ∧ x.sz ≤ 1048576) ∧ 0 ≤ x.pg ∧ x.pg < 64 := fun x hx => by
  obtain ⟨i, hi, rfl⟩ := List.getElem_of_mem hx
  have hl := rosR_len r
  have hR := (run_grp h i (by omega)).row
  have hd := h.hd
  rw [← getD_eq (rosR r) i hi Ro0, rosR_at r i (by omega)]
  simp only [roG]
  omega
theorem rds_in {r : Rq} (h : Run r) (ps : List Int) (i : Nat) : 0 ≤ rdsS ((rosR r).take i) ps ∧ rdsS ((rosR r).take i) ps ≤ szG r.es := by
  have h0 := fun x hx => ((ros_row h x hx).1).1
  have a := rdsS_in (rosR r) ps h0 0 i (Nat.zero_le _)
  have b := rdsS_in (rosR r) ps h0 i ((rosR r).length + i) (by omega)
  rw [List.take_of_length_le (i := (rosR r).length + i) (by omega)] at b
  have c := rdsS_le (rosR r) ps (ps ++ (grps r.es).map pgG) h0 (fun p hp => List.mem_append.2 (.inl hp))
  have d := rdsS_all (grps r.es) 41 (ps ++ (grps r.es).map pgG) fun g hg => List.mem_append.2 (.inr (List.mem_map.2 ⟨g, hg, rfl⟩))
  rw [(run_grps h).2] at d
  have e : rdsS (rosR r) (ps ++ (grps r.es).map pgG) = szG r.es := d
  refine ⟨a, ?_⟩
  omega
theorem rxreads_v {r : Rq} (h : Run r) (ps : List Int) (hps : ps.length ≤ 9223372036854775807) : VCalls prog 12 [.agg (idx r).c, .pv (.sl (fz encI ps))] [] (Ret (.int .i64 (rdsS (rosR r) ps))) := by
  refine dd Tryz.func12 ?_
  have c1 := rixvalR_v h
  have hb := rds_in h ps
  have hsz : szG r.es ≤ 500000 := by
    have := bys_len h
    rw [bysR_len] at this
    omega
  have hrl := ros_le h
  have hrow := ros_row h
  unfold idx at c1 ⊢
  generalize filS (rosR r) = fil at *
  generalize rosR r = rows at *
  (unfold Tryz.f12; refine rn trivial ?_)
  refine rn F ?_
  repeat' (first
    | with_reducible exact ⟨⟩
    | refine vp F (c1) ?_)
  refine vloopW (fun s : To rows.length => ⟨28, 0, [(14, .int .i64 s.i), (13, .int .i64 rows.length), (12, .pv (.sl (fz encRo rows))), (5, .int .i64 (rdsS (rows.take s.i) ps)), (1, .pv (.sl (fz encI ps)))], []⟩) (fun s => rows.length - s.i) ⟨0, Nat.zero_le _⟩ (gc []) ?_
  rintro ⟨i, hi⟩
  dsimp only
  by_cases hin : i < rows.length
  · have hg := fzRo_g rows i hin
    have c2 := scont_v ps hps (rows.getD i Ro0).pg
    have hs := rdsS_succ rows ps i hin
    have hR := hrow (rows.getD i Ro0) (by rw [getD_eq _ _ hin]; exact List.getElem_mem hin)
    have hbi := hb i
    by_cases hm : (rows.getD i Ro0).pg ∈ ps
    · rw [decide_eq_true hm] at c2
      rw [if_pos hm] at hs
      have F := @hg
      refine rn F ?_
      repeat' (first
        | with_reducible exact ⟨⟩
        | refine vp F (c2) ?_)
      exact ⟨⟨i + 1, by omega⟩, by dsimp only; omega, by dsimp only; rw [hs]; exact (gc [])⟩
    · rw [decide_eq_false hm] at c2
      rw [if_neg hm, Int.add_zero] at hs
      have F := @hg
      refine rn F ?_
      repeat' (first
        | with_reducible exact ⟨⟩
        | refine vp F (c2) ?_)
      exact ⟨⟨i + 1, by omega⟩, by dsimp only; omega, by dsimp only; rw [hs]; exact (gc [])⟩
  · obtain rfl : i = rows.length := by omega
    rw [List.take_length]
    have F := trivial
    (refine rn F ?_; try with_reducible exact ⟨⟩)
theorem rxmay_v {r : Rq} (h : Run r) (p : Nat) (hp : p < 64) : VCalls prog 16 [.agg (idx r).c, .int .i64 p] [] (Ret (.bool ((rosR r).any fun x => decide (x.pg = p)))) := by
  refine dd Tryz.func16 ?_
  have hm := may_bit (fun x hx => (ros_row h x hx).2) p hp
  unfold idx
  generalize filS (rosR r) = fil at *
  generalize (rosR r).any (fun x => decide (x.pg = p)) = b at *
  (unfold Tryz.f16; refine rn trivial ?_)
  have F := @hm
  refine rn F ?_
  cases b <;> rfl
theorem rsame23_v (a : List E) (ha : a.length ≤ 1000000) : VCalls prog 15 [.pv (.sl (fz encE a)), .pv (.sl (fz encE a))] [] (Ret (.bool true)) := by
  refine dd Tryz.func15 ?_
  (unfold Tryz.f15; refine rn trivial ?_)
  refine vloopW (fun s : To a.length => ⟨26, 0, [(5, .int .i64 s.i), (0, .pv (.sl (fz encE a))), (1, .pv (.sl (fz encE a)))], []⟩) (fun s => a.length - s.i) ⟨0, Nat.zero_le _⟩ (gc []) ?_
  rintro ⟨i, hi⟩
  dsimp only
  by_cases hin : i < a.length
  · have hg := fzE_g a i hin
    have F := @hg
    refine rn F ?_
    repeat' (first
      | with_reducible exact ⟨⟩
      | (refine vspine (id := 6) [0, 1, 2, 3, 4, 5, 6, 7, 8] [] (by kernel_rfl) (by kernel_rfl) ?_; refine rn F ?_))
    exact ⟨⟨i + 1, by omega⟩, by dsimp only; omega, (gc [])⟩
  · skip
    have F := trivial
    (refine rn F ?_; try with_reducible exact ⟨⟩)
end
section
attribute [local go_sem] Rq.c allEq leafEq
@[go_sem] def ebD2 (a : List E × Bool) : DV := .tup [.pv (.sl (fz encE a.1)), .bool a.2]
@[go_sem] def rnD (a : Rq × Int) : DV := .tup [.agg a.1.c, .int .i64 a.2]
theorem rins_w (l : List E) (hl : l.length ≤ 100000) (e : E) : VCalls prog 62 [.pv (.sl (fz encE l)), .agg e.d] [] (RetS ebD2 fun a => a.1.length ≤ l.length + 1) := by
  refine dd Tryz.func62 ?_
  (unfold Tryz.f62; refine rn trivial ?_)
  refine vloopW (fun s : To l.length => ⟨53, 0, [(6, .int .i64 s.i), (3, .ptr 0 0), (0, .pv (.sl (fz encE l)))], [⟨46, true, e.d⟩]⟩) (fun s => l.length - s.i) ⟨0, Nat.zero_le _⟩ (gc [0]) ?_
  rintro ⟨i, hi⟩
  dsimp only
  have hg := fun h : i < l.length => fzE_g l i h
  have c1 := rcmpE_v (l.getD i E0) e
  have s1 := slkE l 46 0 i ⟨Nat.zero_le _, hi⟩
  have s2 := slkE l 46 i l.length ⟨hi, Nat.le_refl _⟩
  rw [List.take_length] at s2
  rw [List.drop_zero] at s1
  have hb1 : i * 128 ≤ 140737488355328 := by omega
  have hb2 : (i + 1) * 128 ≤ 140737488355328 := by omega
  have hb3 : (i + 1 + (l.length - i)) * 128 ≤ 140737488355328 := by omega
  have htl : (l.take i).length = i := by rw [List.length_take]; omega
  have hdl : (l.drop i).length = l.length - i := List.length_drop
  have hlen : (l.take i ++ [e] ++ l.drop i).length ≤ l.length + 1 := by
    rw [List.length_append, List.length_append, htl, hdl]
    simp only [List.length_cons, List.length_nil]
    omega
  generalize cmpE (l.getD i E0) e = cm at *
  have F := (And.intro @hg (And.intro @s1 (And.intro @s2 (And.intro @hb1 (And.intro @hb2 (And.intro @hb3 (And.intro @htl @hdl)))))))
  refine rn F ?_
  repeat' (first
    | with_reducible exact ⟨⟩
    | (refine sG F ?_ ?_ <;> intro hZ)
    | (refine sB F ?_ ?_ <;> intro hZ)
    | refine vp F (c1) ?_
    | (refine vspine (id := 2) [0, 1, 2, 3, 4, 5, 6, 7, 8, 9] [⟨[], [], 10, [0, 1, 2, 3, 5, 6, 7], [11, 12]⟩] (by kernel_rfl) (by kernel_rfl) ?_; refine rn F ?_)
    | (refine vspine (id := 4) [0, 1, 2, 3, 4, 5, 6, 7, 8, 9] [⟨[], [], 10, [0, 1, 2, 3, 5, 6, 7], [11, 12]⟩] (by kernel_rfl) (by kernel_rfl) ?_; refine rn F ?_)
    | (refine vspine (id := 5) [0, 1, 2, 3, 4, 5, 6] [⟨[], [], 7, [1, 2, 3, 4, 5, 6], []⟩, ⟨[], [], 8, [], []⟩] (by kernel_rfl) (by kernel_rfl) ?_; refine rn F ?_)
    | (refine vspine (id := 6) [0, 1, 2, 4, 7, 8, 9] [⟨[5], [], 3, [0, 1, 4, 7, 8, 9], []⟩, ⟨[5], [5], 6, [0, 1, 2, 4, 7, 8, 9], []⟩, ⟨[], [], 10, [0, 1, 2, 4, 7, 8], []⟩, ⟨[], [], 11, [], []⟩, ⟨[], [], 12, [], []⟩] (by kernel_rfl) (by kernel_rfl) ?_; refine rn F ?_))
  all_goals first
    | exact ⟨⟨i + 1, by omega⟩, by dsimp only; omega, (gc [0])⟩
    | exact ⟨rfl, rfl, (l, _), rfl, Nat.le_succ _⟩
    | exact ⟨rfl, rfl, (l.take i ++ [e] ++ l.drop i, true), rfl, hlen⟩
    | skip
structure MkS (n : Nat) where
  i : Nat
  o : List E
  tw : Bool
  hi : i ≤ n
  ho : o.length ≤ i
structure InS (n : Nat) where
  i : Nat
  tw : Bool
  hi : i ≤ n
theorem rmake_w (l : List E) (hl : l.length ≤ 50000) (fr to lo hi lv : Int) : VCalls prog 37 [.pv (.sl (fz encE l)), .int .i64 fr, .int .i64 to, .int .i64 lo, .int .i64 hi, .int .i64 lv] [] (RetS rnD fun a => a.1.es.length ≤ 4096) := by
  refine dk Tryz.func37 ?_
  have c0 := rrnum_v fr to lo hi lv
  generalize numB fr to lo hi lv = nb at *
  (unfold Tryz.f37; refine rn trivial ?_)
  refine rn F ?_
  repeat' (first
    | with_reducible exact ⟨⟩
    | (refine sB F ?_ ?_ <;> intro hZ)
    | refine vp F (c0) ?_)
  · exact ⟨rfl, rfl, (Rq0, 1), rfl, Nat.zero_le _⟩
  refine vloopW (fun s : To l.length => ⟨134, 0, [(14, .int .i64 s.i), (12, .ptr 0 0), (0, .pv (.sl (fz encE l))), (1, .int .i64 fr), (2, .int .i64 to), (3, .int .i64 lo), (4, .int .i64 hi), (5, .int .i64 lv)], [⟨26, true, [.int .i64 0, .int .i64 0, .int .i64 0, .int .i64 0, .int .i64 0, .pv (.slc [])]⟩]⟩) (fun s => l.length - s.i) ⟨0, Nat.zero_le _⟩ (gc [0]) ?_
  rintro ⟨i, hi2⟩
  dsimp only
  by_cases hin : i < l.length
  · have hg := fzE_g l i hin
    have c1 := rvalid_v (l.getD i E0)
    generalize (l.getD i E0).okB = ok at *
    have F := @hg
    refine rn F ?_
    repeat' (first
      | with_reducible exact ⟨⟩
      | (refine sB F ?_ ?_ <;> intro hZ)
      | refine vp F (c1) ?_)
    · exact ⟨rfl, rfl, (Rq0, 12), rfl, Nat.zero_le _⟩
    · exact ⟨⟨i + 1, by omega⟩, by dsimp only; omega, (gc [0])⟩
  have F := trivial
  refine rn F ?_
  refine VLoop.wkS ?_
  refine rn trivial ?_
  refine vloopW (fun s : MkS l.length => ⟨134, 0, [(17, .int .i64 s.i), (16, .bool s.tw), (15, .ptr 1 0), (12, .ptr 0 0), (0, .pv (.sl (fz encE l))), (1, .int .i64 fr), (2, .int .i64 to), (3, .int .i64 lo), (4, .int .i64 hi)], [⟨26, true, [.int .i64 0, .int .i64 0, .int .i64 0, .int .i64 0, .int .i64 0, .pv (.sl [])]⟩, ⟨26, true, [.int .i64 fr, .int .i64 to, .int .i64 lo, .int .i64 hi, .int .i64 lv, .pv (.sl (fz encE s.o))]⟩]⟩) (fun s => l.length - s.i) ⟨0, [], false, Nat.zero_le _, Nat.le_refl _⟩ (gc [0, 1]) ?_
  rintro ⟨i, o, tw, hi3, ho⟩
  dsimp only
  by_cases hin : i < l.length
  · have hg := fzE_g l i hin
    have c1 := rchanges_v (l.getD i E0)
    generalize ((l.getD i E0).kind == 1 || (l.getD i E0).kind == 2) = ch at *
    have F := @hg
    refine rn F ?_
    repeat' (first
      | with_reducible exact ⟨⟩
      | (refine sG F ?_ ?_ <;> intro hZ)
      | (refine sB F ?_ ?_ <;> intro hZ)
      | refine vp F (c1) ?_)
    all_goals first
      | exact ⟨⟨i + 1, o, tw, by omega, by omega⟩, by dsimp only; omega, (gc [0, 1])⟩
      | skip
    generalize l.getD i E0 = e at *
    refine vloopW (fun s : InS o.length => ⟨134, 0, [(19, .int .i64 s.i), (18, .ptr 2 0), (17, .int .i64 i), (16, .bool s.tw), (15, .ptr 1 0), (12, .ptr 0 0), (0, .pv (.sl (fz encE l))), (1, .int .i64 fr), (2, .int .i64 to), (3, .int .i64 lo), (4, .int .i64 hi)], [⟨26, true, [.int .i64 0, .int .i64 0, .int .i64 0, .int .i64 0, .int .i64 0, .pv (.sl [])]⟩, ⟨26, true, [.int .i64 fr, .int .i64 to, .int .i64 lo, .int .i64 hi, .int .i64 lv, .pv (.sl (fz encE o))]⟩, ⟨46, true, e.d⟩]⟩) (fun s => o.length - s.i) ⟨0, tw, Nat.zero_le _⟩ (gc [0, 1, 2]) ?_
    rintro ⟨i2, tw2, hi4⟩
    dsimp only
    have hg2 := fun h : i2 < o.length => fzE_g o i2 h
    have c2 := rins_w o (by omega) e
    have F := @hg2
    refine rn F ?_
    repeat' (first
      | with_reducible exact ⟨⟩
      | (refine sG F ?_ ?_ <;> intro hZ)
      | (refine sB F ?_ ?_ <;> intro hZ)
      | (refine vc_S (c2) rfl ?_; rintro ⟨o2, b2⟩ ho2; refine rn F ?_)
      | (refine vspine (id := 18) [0, 1, 2, 3, 4, 5, 6, 7, 8, 9, 10, 11, 12, 13, 14, 15, 16, 17, 18, 19, 20] [⟨[], [], 21, [], []⟩] (by kernel_rfl) (by kernel_rfl) ?_; refine rn F ?_))
    all_goals first
      | exact ⟨⟨i2 + 1, _, by omega⟩, by dsimp only; omega, (gc [0, 1, 2])⟩
      | exact ⟨⟨i + 1, o2, tw2, by omega, by dsimp only at ho2; omega⟩, by dsimp only; omega, (gc [0, 1])⟩
      | skip
  have c3 := rrnvalid_v ⟨fr, to, lo, hi, lv, o⟩ (by dsimp only; omega)
  generalize runB ⟨fr, to, lo, hi, lv, o⟩ = ok at *
  have F := trivial
  refine rn F ?_
  repeat' (first
    | with_reducible exact ⟨⟩
    | (refine sB F ?_ ?_ <;> intro hZ)
    | refine vp F (c3) ?_)
  all_goals first
    | exact ⟨rfl, rfl, (Rq0, _), rfl, Nat.zero_le _⟩
    | exact ⟨rfl, rfl, (⟨fr, to, lo, hi, lv, o⟩, 0), rfl, by dsimp only; omega⟩
    | skip
end
section
attribute [local go_sem] Rq.c cb cc
theorem mklog_v (c : C) : VCalls prog 19 [.ptr 0 0, .int .i64 25] [cb c] (CX fun d => ∃ (n : Int) (x : Lg), d = .tup [.int .i64 n, .agg x.c] ∧ x.es.length ≤ 4096 ∧ x.f = 1) := by
  refine dd Tryz.func19 ?_
  (unfold Tryz.f19; refine rn trivial ?_)
  refine vc_cx (k := 0) (c := c) (kernel1_v c 25 (by omega)) rfl rfl ?_
  rintro _ c1 ⟨k, rfl, hk, hv, hf⟩
  obtain ⟨pg, nx, x, pl, lk, tx, ix, la⟩ := k
  dsimp only at hv hf
  have hl : x.es.length ≤ 4096 := hk.1
  have q1 := rlLast_v x (by omega)
  have q2 := rforce_v x (by omega) (lastS x)
  have hF : (forceS x (lastS x)).1.es.length ≤ 4096 ∧ (forceS x (lastS x)).1.f = 1 := by
    have h0 : (forceS x (lastS x)).2 = 0 := by
      unfold forceS
      rw [if_neg (by rw [hv]; decide), if_neg (by rw [show lastS x = x.end_ from if_pos hv]; omega)]
    exact ⟨forceS_len _ _ hl, (forceS_ev h0).f.trans hf⟩
  generalize forceS x (lastS x) = F0 at *
  obtain ⟨z0, e0⟩ := F0
  dsimp only at hF
  refine rn F ?_
  repeat' (first
    | with_reducible exact ⟨⟩
    | refine vp F (q1) ?_
    | refine vp F (q2) ?_
    | (refine vspine (id := 2) [0, 1, 2, 3] [⟨[9], [], 4, [0, 1, 2], []⟩, ⟨[9], [], 5, [0, 2, 3], [6, 7, 8]⟩, ⟨[9], [9], 10, [8], []⟩, ⟨[], [], 11, [], []⟩] (by kernel_rfl) (by kernel_rfl) ?_; refine rn F ?_)
    | (refine vspine (id := 3) [0, 1, 2] [⟨[], [], 3, [2], []⟩, ⟨[], [], 4, [], []⟩] (by kernel_rfl) (by kernel_rfl) ?_; refine rn F ?_))
  exact ⟨_, rfl, rfl, cc_nums _, rfl, ⟨_, z0, rfl, hF.1, hF.2⟩, _, rfl⟩
theorem ce_take (l : List E) (n : Nat) (h : n ≤ l.length) : (cells encE l).take (n * 13) = cells encE (l.take n) := by
  conv => lhs; rw [← List.take_append_drop n l, cells_app]
  rw [List.take_left' (by rw [lenE, List.length_take, Nat.min_eq_left h])]
theorem ce_drop (l : List E) (n : Nat) (h : n ≤ l.length) : (cells encE l).drop (n * 13) = cells encE (l.drop n) := by
  conv => lhs; rw [← List.take_append_drop n l, cells_app]
  rw [List.drop_left' (by rw [lenE, List.length_take, Nat.min_eq_left h])]
theorem mkrun_v (c : C) (x : Lg) (hl : x.es.length ≤ 4096) (hf : x.f = 1) : VCalls prog 20 [.ptr 0 0, .agg x.c] [cb c] (CX fun d => ∃ r : Rq, d = .agg r.c ∧ r.es.length ≤ 10000) := by
  refine dk Tryz.func20 ?_
  obtain ⟨f, es, d⟩ := x
  dsimp only at hl hf
  subst hf
  (unfold Tryz.f20; refine rn trivial ?_)
  by_cases h0 : (es.length : Int) = 0
  · skip
    have F := @h0
    refine rn F ?_
    repeat' (first
      | with_reducible exact ⟨⟩
      | (refine vc_cx (k := 0) (next_v _ 4 (by omega) (by omega)) rfl rfl ?_; rintro _ _ ⟨_, rfl, _⟩; refine rn F ?_))
    exact ⟨_, rfl, rfl, cc_nums _, rfl, ⟨⟨_, _, _, _, _, []⟩, rfl, Nat.zero_le _⟩, _, rfl⟩
  have F := @h0
  refine rn F ?_
  repeat' (first
    | with_reducible exact ⟨⟩
    | (refine vspine (id := 4) [0, 1, 2, 3] [⟨[], [], 4, [0, 1], [5]⟩, ⟨[], [], 6, [], []⟩] (by kernel_rfl) (by kernel_rfl) ?_; refine rn F ?_))
  refine vc_cx (k := 0) (next_v c es.length (by omega) (by omega)) rfl rfl ?_
  rintro _ c1 ⟨a, rfl, ha⟩
  have F := trivial
  refine rn F ?_
  refine vc_cx (k := 0) (next_i c1 _ (by omega) (by omega)) rfl rfl ?_
  rintro _ c2 ⟨b, rfl, hb⟩
  have c9 := rmake_w es (by omega)
  have F := trivial
  refine rn F ?_
  repeat' (first
    | with_reducible exact ⟨⟩
    | (refine sB F ?_ ?_ <;> intro hZ)
    | (refine vc_cx (k := 0) (next_v _ 3 (by omega) (by omega)) rfl rfl ?_; rintro _ _ ⟨_, rfl, _⟩; refine rn F ?_)
    | (refine vc_cx (k := 0) (next_v _ 4 (by omega) (by omega)) rfl rfl ?_; rintro _ _ ⟨_, rfl, _⟩; refine rn F ?_)
    | (refine vc_S (c9 _ _ _ _ _) rfl ?_; rintro ⟨⟨rf, rt, rl, rh, rv, es2⟩, er⟩ hr; refine rn F ?_)
    | (refine vspine (id := 7) [0, 1, 2, 3, 4, 5, 6, 9] [⟨[15], [], 7, [0, 1, 2, 3, 4, 5, 9], [8]⟩, ⟨[15], [], 10, [0, 1, 2, 3, 4, 5, 6, 8], []⟩, ⟨[15], [], 11, [0, 5, 6, 9], [12, 13, 14]⟩, ⟨[15], [15], 16, [14], []⟩, ⟨[], [], 17, [], []⟩] (by kernel_rfl) (by kernel_rfl) ?_; refine rn F ?_))
  all_goals first
    | exact ⟨_, rfl, rfl, cc_nums _, rfl, ⟨⟨rf, rt, rl, rh, rv, es2⟩, rfl, by dsimp only at hr ⊢; omega⟩, _, rfl⟩
    | skip
  dsimp only at hr
  have hb : es2.length * 128 ≤ 140737488355328 := by omega
  have F := @hb
  refine rn F ?_
  repeat' (first
    | with_reducible exact ⟨⟩
    | (refine sB F ?_ ?_ <;> intro hZ)
    | (refine vc_cx (k := 0) (next_v _ 6 (by omega) (by omega)) rfl rfl ?_; rintro _ _ ⟨_, rfl, _⟩; refine rn F ?_)
    | (refine vc_cx (k := 0) (next_v _ 12 (by omega) (by omega)) rfl rfl ?_; rintro _ _ ⟨_, rfl, _⟩; refine rn F ?_)
    | (refine vc_cx (k := 0) (int_v _) rfl rfl ?_; rintro _ _ ⟨_, rfl, _⟩; refine rn F ?_)
    | (refine vspine (id := 26) [0, 1, 2, 3, 4, 5, 8, 9, 10, 11, 12, 13] [⟨[], [], 6, [0, 1, 3, 4, 8, 9, 10, 11, 12, 13], [7]⟩, ⟨[], [], 14, [0, 1, 2, 3, 4, 5, 8, 9, 11, 12, 7], [15]⟩, ⟨[], [], 16, [0, 1, 2, 3, 4, 5, 8, 9, 10, 11, 12, 13], [17]⟩, ⟨[], [], 18, [], []⟩] (by kernel_rfl) (by kernel_rfl) ?_; refine rn F ?_))
  all_goals first
    | exact ⟨_, rfl, rfl, cc_nums _, rfl, ⟨⟨_, _, _, _, _, es2⟩, rfl, by dsimp only; omega⟩, _, rfl⟩
    | skip
  · refine vc_cx (k := 0) (next_v _ es2.length (by omega) (by omega)) rfl rfl ?_
    rintro _ c3 ⟨k, rfl, hk⟩
    have h1 : k * 13 < es2.length * 13 := by omega
    have h4 : k * 13 + 13 ≤ es2.length * 13 := by omega
    have he := elE es2 k hk
    have h7 := setE_in es2 k hk
    have h8 := fun e => @List.length_set _ es2 k e
    have F := (And.intro @h1 (And.intro @h4 (And.intro @he (And.intro @h7 @h8))))
    refine rn F ?_
    repeat' (first
      | with_reducible exact ⟨⟩
      | (refine vc_cx (k := 0) (oddentry_v _ _) rfl rfl ?_; rintro _ _ ⟨_, rfl, _⟩; refine rn F ?_)
      | (refine vspine (id := 23) [0, 1, 2, 3, 4, 5, 6, 7, 8] [⟨[], [], 9, [0, 1, 2, 4, 5, 6, 7], [10]⟩, ⟨[], [], 11, [], []⟩] (by kernel_rfl) (by kernel_rfl) ?_; refine rn F ?_))
    all_goals exact ⟨_, rfl, rfl, cc_nums _, rfl, ⟨⟨_, _, _, _, _, _⟩, rfl, by dsimp only; rw [List.length_set]; omega⟩, _, rfl⟩
  · refine vc_cx (k := 0) (next_v _ es2.length (by omega) (by omega)) rfl rfl ?_
    rintro _ c3 ⟨a2, rfl, ha2⟩
    have F := @hb
    refine rn F ?_
    refine vc_cx (k := 0) (next_v _ es2.length (by omega) (by omega)) rfl rfl ?_
    rintro _ c4 ⟨b2, rfl, hb2⟩
    have f1 : b2 * 13 + (es2.length - b2) * 13 ≤ es2.length * 13 := by omega
    have f2 : ((cells encE es2).drop (b2 * 13)).take ((es2.length - b2) * 13) = cells encE (es2.drop b2) := by
      rw [ce_drop _ _ (by omega), List.take_of_length_le]
      rw [lenE, List.length_drop]
      exact Nat.le_refl _
    have f3 := ce_take es2 a2 (by omega)
    have f4 : a2 * 13 ≤ es2.length * 13 := by omega
    have f5 : (es2.take a2 ++ es2.drop b2).length = a2 + (es2.length - b2) := by rw [List.length_append, List.length_take, List.length_drop]; omega
    have f6 : (a2 + (es2.length - b2)) * 128 ≤ 140737488355328 := by omega
    have F := (And.intro @hb (And.intro @f1 (And.intro @f2 (And.intro @f3 (And.intro @f4 (And.intro @f5 @f6))))))
    refine rn F ?_
    all_goals exact ⟨_, rfl, rfl, cc_nums _, rfl, ⟨⟨_, _, _, _, _, _⟩, rfl, by dsimp only; rw [f5]; omega⟩, _, rfl⟩
structure ByS where
  i : Nat
  hi : i ≤ 4
  c : C
theorem bytes24_v (c : C) : VCalls prog 8 [.ptr 0 0] [cb c] (CX fun d => ∃ r : Rq, runB r = true ∧ d = .tup [.pv (.str (bysR r)), .agg r.c]) := by
  refine dk Tryz.func8 ?_
  (unfold Tryz.f8; refine rn trivial ?_)
  refine vc_cx (k := 0) (c := c) (mklog_v c) rfl rfl ?_
  rintro _ c1 ⟨n, x, rfl, hl, hf⟩
  refine rn F ?_
  refine vloopW (fun s0 : ByS => ⟨42, 1, [(6, .int .i64 s0.i), (5, .ptr 2 0), (3, .ptr 1 0), (0, .ptr 0 0)], [cb s0.c, ⟨26, true, [.int .i64 0, .int .i64 0, .int .i64 0, .int .i64 0, .int .i64 0, .pv (.slc [])]⟩, ⟨63, true, x.c⟩]⟩) (fun s0 => 4 - s0.i) ⟨0, by omega, c1⟩ (gc [0, 1, 2]) ?_
  rintro ⟨i, hi, c2⟩
  dsimp only
  by_cases hin : i < 4
  · skip
    refine rn F ?_
    refine vc_cx (k := 0) (mkrun_v c2 x hl hf) rfl rfl ?_
    rintro _ c3 ⟨r, rfl, hr⟩
    have q1 := renc23_v r (by omega)
    unfold encS23 at q1
    cases hv : runB r
    · rw [hv] at q1
      refine rn F ?_
      repeat' (first
        | with_reducible exact ⟨⟩
        | refine vp F (q1) ?_)
      exact ⟨⟨i + 1, by omega, c3⟩, by dsimp only; omega, (gc [0, 1, 2])⟩
    · rw [hv] at q1
      refine rn F ?_
      repeat' (first
        | with_reducible exact ⟨⟩
        | refine vp F (q1) ?_
        | (refine vspine (id := 8) [0, 1] [⟨[], [], 2, [1], []⟩, ⟨[], [], 3, [], []⟩] (by kernel_rfl) (by kernel_rfl) ?_; refine rn F ?_))
      exact ⟨_, rfl, rfl, cc_nums _, rfl, ⟨r, hv, rfl⟩, _, rfl⟩
  · have q1 := renc23_v ⟨1, 1, 0, 3, 0, []⟩ (Nat.zero_le _)
    unfold encS23 at q1
    have hv : runB ⟨1, 1, 0, 3, 0, []⟩ = true := by decide
    rw [if_pos hv] at q1
    have q2 : VCalls prog 17 [.agg [.int .i64 1, .int .i64 1, .int .i64 0, .int .i64 3, .int .i64 0, .pv (.slc [])]] [] (Ret (.tup [.pv (.str (bysR ⟨1, 1, 0, 3, 0, []⟩)), .int .i64 0])) := VCalls.wkA q1
    refine rn F ?_
    repeat' (first
      | with_reducible exact ⟨⟩
      | refine vp F (q2) ?_
      | (refine vspine (id := 11) [0, 1] [⟨[], [], 2, [1], []⟩, ⟨[], [], 3, [], []⟩] (by kernel_rfl) (by kernel_rfl) ?_; refine rn F ?_))
    exact ⟨_, rfl, rfl, cc_nums _, rfl, ⟨⟨1, 1, 0, 3, 0, []⟩, hv, rfl⟩, _, rfl⟩
theorem awake24_v : VCalls prog 7 [] [] (Ret (.bool true)) := by
  refine dd Tryz.func7 ?_
  have q1 := renc23_v ⟨1, 1, 0, 0, 0, []⟩ (Nat.zero_le _)
  unfold encS23 at q1
  have hv : runB ⟨1, 1, 0, 0, 0, []⟩ = true := by decide
  rw [if_pos hv] at q1
  have q2 : VCalls prog 17 [.agg [.int .i64 1, .int .i64 1, .int .i64 0, .int .i64 0, .int .i64 0, .pv (.slc [])]] [] (Ret (.tup [.pv (.str (bysR ⟨1, 1, 0, 0, 0, []⟩)), .int .i64 0])) := VCalls.wkA q1
  have q3 := rixbuild_v hv
  have q4 := rixvalR_v (runB_run hv)
  have hi : idx ⟨1, 1, 0, 0, 0, []⟩ = ⟨1, 1, 0, 0, 0, 0, []⟩ := rfl
  rw [hi] at q3 q4
  (unfold Tryz.f7; refine rn trivial ?_)
  refine rn F ?_
  repeat' (first
    | with_reducible exact ⟨⟩
    | refine vp F (q2) ?_
    | refine vp F (q3) ?_
    | refine vp F (q4) ?_)
end
section
attribute [local go_sem] Rq.c cb cc
theorem head_getD (g : List E) : g.headD E0 = g.getD 0 E0 := by cases g <;> rfl
theorem rirows_v (l : List UInt8) (hl : l.length ≤ 9223372036854775807) : VCalls prog 3 [.pv (.sl (fz encU l))] [] (Ret (.bool true)) := by
  refine dd Tryz.func3 ?_
  have c0 := awake24_v
  (unfold Tryz.f3; refine rn trivial ?_)
  refine rn F ?_
  repeat' (first
    | with_reducible exact ⟨⟩
    | refine vp F (c0) ?_)
  refine vc_draw (most := 400) (by omega) (by omega) hl fun c => ?_
  refine rn trivial ?_
  refine vc_cx (k := 0) (c := c) (bytes24_v c) rfl rfl ?_
  rintro _ c1 ⟨r, hB, rfl⟩
  have h := runB_run hB
  have hle := h.len
  have c2 := rixbuild_v hB
  have hrow := row_at h
  have hlen := rosR_len r
  have hrl := ros_le h
  have hend := bys_end h
  have hbl := bys_len h
  have c3 := fun p => rsel_v r (by omega) p hB
  have hfl := (run_grps h).2
  refine rn F ?_
  repeat' (first
    | with_reducible exact ⟨⟩
    | refine vp F (c2) ?_)
  generalize bysR r = s at *
  refine vloopW (fun s0 : To (rosR r).length => ⟨99, 0, [(9, .int .i64 s0.i), (8, .int .i64 ((41 + szG ((grps r.es).take s0.i).flatten : Nat) : Int)), (7, .int .i64 ((grps r.es).take s0.i).flatten.length), (5, .ptr 1 0), (4, .ptr 0 0), (3, .pv (.str s))], [⟨26, true, r.c⟩, ⟨34, true, (idx r).c⟩]⟩) (fun s0 => (rosR r).length - s0.i) ⟨0, Nat.zero_le _⟩ (gc [1, 2]) ?_
  rintro ⟨i, hi⟩
  dsimp only
  unfold idx
  generalize filS (rosR r) = fil at *
  by_cases hin : i < (rosR r).length
  · obtain ⟨g, e1, e2, e3, e4, e5, e6, e7⟩ := hrow i (by omega)
    have hg := fzRo_g (rosR r) i hin
    rw [e3] at hg
    dsimp only [roG] at hg
    have c3 := c3 (pgG g)
    rw [e2.sel] at c3
    have hR := e2.row
    have hla := e2.last
    rw [hla, head_getD] at hR
    rw [hla, head_getD] at hg
    have g0 := fzE_g g 0 (by omega)
    have g1 := fzE_g g (g.length - 1) (by omega)
    have ha : ((41 + szG ((grps r.es).take i).flatten : Nat) : Int) + (szG g : Int) = ((41 + (szG ((grps r.es).take i).flatten + szG g) : Nat) : Int) := by omega
    have hk : ((((grps r.es).take i).flatten.length : Nat) : Int) + (g.length : Int) = ((((grps r.es).take i).flatten.length + g.length : Nat) : Int) := by omega
    have F := (And.intro @hg (And.intro @g0 (And.intro @g1 (And.intro @ha @hk))))
    refine rn F ?_
    repeat' (first
      | with_reducible exact ⟨⟩
      | refine vp F (c3) ?_
      | (refine vspine (id := 13) [0, 1, 2, 3, 4, 5, 6, 7, 8, 9, 10, 11, 12, 13, 14, 15, 16, 17, 18, 19, 20, 21, 22, 23, 24, 25, 26, 27, 28, 29, 30, 31, 32, 33, 34, 35, 36] [] (by kernel_rfl) (by kernel_rfl) ?_; refine rn F ?_))
    all_goals first
      | (exfalso; omega)
      | (refine ⟨⟨i + 1, by omega⟩, by dsimp only; omega, ?_⟩
         dsimp only
         rw [e4, e5]
         exact (gc [0, 1]))
      | skip
  · obtain rfl : i = (rosR r).length := by omega
    have e8 : (grps r.es).take (rosR r).length = grps r.es := List.take_of_length_le (by omega)
    rw [e8, hfl]
    rw [hfl] at hend
    have F := @hend
    (refine rn F ?_; try with_reducible exact ⟨⟩)
end
section
attribute [local go_sem] Rq.c cb cc
theorem part_at {r : Rq} (h : Run r) (i : Nat) (hi : i < (grps r.es).length) (g : List E) (he : (grps r.es).getD i [] = g) (a : Nat) (ha : a = 41 + szG ((grps r.es).take i).flatten) : a + szG g ≤ (bysR r).length ∧ ((bysR r).take (a + szG g)).drop a = g.flatMap frE := by
  obtain ⟨p, q, e1, e2⟩ := bys_part h i hi
  rw [he] at e1
  have hp : p.length = a := by omega
  rw [e1]
  refine ⟨?_, ?_⟩
  · rw [List.length_append, List.length_append, hp]
    unfold szG; omega
  · rw [← hp, ← List.append_assoc, List.take_left' (by rw [List.length_append]; rfl), List.drop_left]
theorem find_page {r : Rq} (h : Run r) (p : Nat) (hp : p < 64) : VCalls prog 14 [.pv (.str (bysR r)), .agg (idx r).c, .int .i64 p] [] (Ret (elD (sel r.es p, 0))) := by
  by_cases hex : ∃ i, i < (grps r.es).length ∧ pgG ((grps r.es).getD i []) = (p : Int)
  · obtain ⟨i, hi, hpi⟩ := hex
    obtain ⟨g, he⟩ : ∃ g, (grps r.es).getD i [] = g := ⟨_, rfl⟩
    rw [he] at hpi
    have hG := run_grp h i hi
    rw [he] at hG
    obtain ⟨a, ha⟩ : ∃ a, a = 41 + szG ((grps r.es).take i).flatten := ⟨_, rfl⟩
    obtain ⟨p1, p2⟩ := part_at h i hi g he a ha
    have hbl := bys_len h
    have c := rxfind_w h (bysR r) (by omega) i hi g he a ha p1
    rw [p2, hpi] at c
    have hs := hG.sel
    rw [hpi] at hs
    rw [hs]
    have hr := rdF_frames (es := g) (fun e he => (hG.ok e he).1) g.length (Nat.le_refl _)
    rw [List.take_length] at hr
    exact c.mono fun d h' ⟨e1, e2, x, e3, q⟩ => by
      have := q.2 g hr (right_grp hG a)
      subst this e3 e1
      exact ⟨rfl, e2, rfl⟩
  · have hno : ∀ i, i < (grps r.es).length → pgG ((grps r.es).getD i []) ≠ (p : Int) := fun i hi e => hex ⟨i, hi, e⟩
    have c := rxfind_no h (bysR r) p ⟨by omega, by omega⟩ hno
    have hs : sel r.es p = [] := by
      have := sel_no (run_grps h).1 (p := p) fun g hg => by
        obtain ⟨i, hi, rfl⟩ := List.getElem_of_mem hg
        rw [← getD_eq (grps r.es) i hi []]
        exact hno i hi
      rwa [(run_grps h).2] at this
    rw [hs]
    exact c
theorem may_sel {r : Rq} (h : Run r) (p : Nat) : ((rosR r).any fun x => decide (x.pg = p)) = decide (0 < (sel r.es p).length) := by
  have hl := rosR_len r
  rw [Bool.eq_iff_iff, List.any_eq_true, decide_eq_true_eq]
  constructor
  · rintro ⟨x, hx, hp⟩
    obtain ⟨i, hi, rfl⟩ := List.getElem_of_mem hx
    rw [← getD_eq (rosR r) i hi Ro0, rosR_at r i (by omega), decide_eq_true_eq] at hp
    have hp : pgG ((grps r.es).getD i []) = p := hp
    have hG := run_grp h i (by omega)
    have hs := hG.sel
    rw [hp] at hs
    rw [hs]
    exact List.length_pos_iff.2 hG.ne
  · intro h0
    by_cases hex : ∃ i, i < (grps r.es).length ∧ pgG ((grps r.es).getD i []) = (p : Int)
    · obtain ⟨i, hi, hpi⟩ := hex
      refine ⟨(rosR r)[i], List.getElem_mem _, ?_⟩
      rw [← getD_eq (rosR r) i (by omega) Ro0, rosR_at r i hi, decide_eq_true_eq]
      exact hpi
    · have := sel_no (run_grps h).1 (p := p) fun g hg => by
        obtain ⟨i, hi, rfl⟩ := List.getElem_of_mem hg
        rw [← getD_eq (grps r.es) i hi []]
        exact fun e => hex ⟨i, hi, e⟩
      rw [(run_grps h).2] at this
      rw [this] at h0
      simp at h0
theorem rifinds_v (l : List UInt8) (hl : l.length ≤ 9223372036854775807) : VCalls prog 6 [.pv (.sl (fz encU l))] [] (Ret (.bool true)) := by
  refine dd Tryz.func6 ?_
  have c0 := awake24_v
  (unfold Tryz.f6; refine rn trivial ?_)
  refine rn F ?_
  repeat' (first
    | with_reducible exact ⟨⟩
    | refine vp F (c0) ?_)
  refine vc_draw (most := 400) (by omega) (by omega) hl fun c => ?_
  refine rn trivial ?_
  refine vc_cx (k := 0) (c := c) (bytes24_v c) rfl rfl ?_
  rintro _ c1 ⟨r, hB, rfl⟩
  have h := runB_run hB
  have hle := h.len
  have hd := h.hd
  have c2 := rixbuild_v hB
  have c3 := find_page h
  have c4 := rxmay_v h
  have hpw := run_pw h
  have hz := below_zero (es := r.es) fun e he => by have := (h.ok e he).2.2.1; omega
  have ha := below_all (es := r.es) (p := 64) fun e he => by have := (h.ok e he).2.2.2.1; omega
  have c5 := rsame23_v r.es (by omega)
  have hbl : ∀ p, (below r.es p).length ≤ r.es.length := fun p => List.length_filter_le _ _
  have hsl : ∀ p, (sel r.es p).length ≤ r.es.length := fun p => List.length_filter_le _ _
  refine rn F ?_
  repeat' (first
    | with_reducible exact ⟨⟩
    | refine vp F (c2) ?_)
  generalize bysR r = s at *
  generalize idx r = x at *
  refine VLoop.nilOwn 7 46 13 rfl ?_
  refine vloopW (fun s0 : To 64 => ⟨55, 0, [(8, .int .i64 s0.i), (7, .own 2 13 0 (below r.es s0.i).length), (5, .ptr 1 0), (4, .ptr 0 0), (3, .pv (.str s))], [⟨26, true, r.c⟩, ⟨34, true, x.c⟩, ⟨46, true, cells encE (below r.es s0.i)⟩]⟩) (fun s0 => 64 - s0.i) ⟨0, Nat.zero_le _⟩ (by dsimp only; rw [show ((0 : Nat) : Int) = 0 from rfl, hz]; exact (gc [1, 2, 3])) ?_
  rintro ⟨i, hi⟩
  dsimp only
  by_cases hin : i < 64
  · have c3 := c3 i hin
    have c4 := c4 i hin
    rw [may_sel h i] at c4
    have hs := below_succ r.es i hpw
    have b1 := hbl i
    have b2 := hsl i
    have hall := allE (below r.es i) ((below r.es i).length * 13) (Nat.le_refl _)
    rw [show decide (0 < (sel r.es i).length) = decide (0 < ((sel r.es i).length : Int)) from decide_eq_decide.2 (by omega)] at c4
    generalize sel r.es i = g at *
    generalize below r.es i = o at *
    have hb : (o.length + g.length) * 128 ≤ 140737488355328 := by omega
    have F := (And.intro @hb @hall)
    refine rn F ?_
    repeat' (first
      | with_reducible exact ⟨⟩
      | refine vp F (c3) ?_
      | refine vp F (c4) ?_)
    refine ⟨⟨i + 1, by omega⟩, by dsimp only; omega, ?_⟩
    dsimp only
    rw [show ((i + 1 : Nat) : Int) = (i : Int) + 1 by omega, hs, List.length_append]
    exact (gc [0, 1, 3])
  · obtain rfl : i = 64 := by omega
    rw [show ((64 : Nat) : Int) = 64 from rfl, ha]
    have F := trivial
    refine rn F ?_
    repeat' (first
      | with_reducible exact ⟨⟩
      | refine vl F (c5) ?_)
end
section
attribute [local go_sem] Rq.c cb cc lenI allI appI slkI srcI frzI
def upto (i : Nat) : List Int := (List.range i).map fun (k : Nat) => (k : Int)
theorem upto_len (i : Nat) : (upto i).length = i := by unfold upto; simp
theorem upto_succ (i : Nat) : upto i ++ [(i : Int)] = upto (i + 1) := by unfold upto; rw [List.range_succ, List.map_append]; rfl
theorem upto_mem {i : Nat} {p : Int} (h : 0 ≤ p ∧ p < i) : p ∈ upto i := by
  unfold upto
  rw [List.mem_map]
  exact ⟨p.toNat, List.mem_range.2 (by omega), by omega⟩
theorem rds_all {r : Rq} (h : Run r) (ps : List Int) (hp : ∀ p : Int, 0 ≤ p ∧ p < 64 → p ∈ ps) : rdsS (rosR r) ps = szG r.es := by
  have := rdsS_all (grps r.es) 41 ps fun g hg => by
    obtain ⟨i, hi, rfl⟩ := List.getElem_of_mem hg
    rw [← getD_eq (grps r.es) i hi []]
    have h1 := (run_grp h i hi).row
    have h2 := h.hd
    exact hp _ (by omega)
  rwa [(run_grps h).2] at this
theorem rireads_v (l : List UInt8) (hl : l.length ≤ 9223372036854775807) (ps : List Int) (hps : ps.length ≤ 9223372036854775807) (more : Int) : VCalls prog 4 [.pv (.sl (fz encU l)), .pv (.sl (fz encI ps)), .int .i64 more] [] (Ret (.bool true)) := by
  refine dd Tryz.func4 ?_
  have c0 := awake24_v
  (unfold Tryz.f4; refine rn trivial ?_)
  by_cases h50 : 50 < (ps.length : Int)
  · skip
    have F := @h50
    refine rn F ?_
    repeat' (first
      | with_reducible exact ⟨⟩
      | refine vp F (c0) ?_)
    all_goals rfl
  have F := @h50
  refine rn F ?_
  repeat' (first
    | with_reducible exact ⟨⟩
    | refine vp F (c0) ?_)
  refine vc_draw (most := 400) (by omega) (by omega) hl fun c => ?_
  refine rn trivial ?_
  refine vc_cx (k := 0) (c := c) (bytes24_v c) rfl rfl ?_
  rintro _ c1 ⟨r, hB, rfl⟩
  have h := runB_run hB
  have c2 := rixbuild_v hB
  have c3 := fun ps' hp => rxreads_v h ps' hp
  have hall := rds_all h
  have hin := fun ps' => rds_in h ps' (rosR r).length
  simp only [List.take_length] at hin
  have hle2 := rdsS_le (rosR r) ps ([more] ++ ps) (fun x hx => ((ros_row h x hx).1).1) fun p hp => List.mem_append.2 (.inr hp)
  have hbl := bysR_len r
  have hb5 := bys_len h
  have F := trivial
  refine rn F ?_
  repeat' (first
    | with_reducible exact ⟨⟩
    | refine vp F (c2) ?_)
  generalize bysR r = s at *
  generalize idx r = x at *
  refine VLoop.nilOwn 11 3 1 rfl ?_
  refine vloopW (fun s0 : To 64 => ⟨87, 0, [(12, .int .i64 s0.i), (11, .own 1 1 0 s0.i), (10, .int .i64 0), (9, .ptr 0 0), (7, .pv (.str s)), (1, .pv (.sl (fz encI ps))), (2, .int .i64 more)], [⟨34, true, x.c⟩, ⟨3, true, cells encI (upto s0.i)⟩]⟩) (fun s0 => 64 - s0.i) ⟨0, Nat.zero_le _⟩ (gc [2, 3]) ?_
  rintro ⟨i, hi⟩
  dsimp only
  have hul := upto_len i
  by_cases hin2 : i < 64
  · have hb : (i + 1) * 8 ≤ 140737488355328 := by omega
    have hcl := lenI (upto i)
    rw [hul] at hcl
    have hal := allI (upto i) i (by rw [hul]; omega)
    have hus := upto_succ i
    have hL : ([.pv (.lit (.int .i64 i))] : List DV) = cells encI [(i : Int)] := rfl
    have F := (And.intro @hb (And.intro @hcl (And.intro @hal (And.intro @hus @hL))))
    refine rn F ?_
    exact ⟨⟨i + 1, by omega⟩, by dsimp only; omega, (gc [0, 3])⟩
  · obtain rfl : i = 64 := by omega
    have k1 := c3 ps hps
    have k2 := c3 ([more] ++ ps) (by rw [List.length_append]; simp; omega)
    have k3 := c3 (upto 64) (by rw [hul]; decide)
    have k4 := c3 (upto 64 ++ upto 64) (by rw [List.length_append, hul]; decide)
    rw [hall (upto 64) fun p hp => upto_mem hp] at k3
    rw [hall (upto 64 ++ upto 64) fun p hp => List.mem_append.2 (.inl (upto_mem hp))] at k4
    have m1 := hin ps
    have m2 := hin ([more] ++ ps)
    generalize rdsS (rosR r) ps = n1 at *
    generalize rdsS (rosR r) ([more] ++ ps) = n2 at *
    have hL : ([.pv (.lit (.int .i64 more))] : List DV) = cells encI [more] := rfl
    have hcl := lenI (upto 64)
    rw [hul] at hcl
    have hal := allI (upto 64) 64 (by rw [hul]; omega)
    have hb : (1 + ps.length) * 8 ≤ 140737488355328 := by omega
    have F := (And.intro @hb (And.intro @hcl (And.intro @hal (And.intro @hL (And.intro @hul @hbl)))))
    refine rn F ?_
    repeat' (first
      | with_reducible exact ⟨⟩
      | refine vp F (k1) ?_
      | refine vl F (k2) ?_
      | refine vl F (k3) ?_
      | refine vl F (k4) ?_
      | (refine vspine (id := 11) [0, 1, 3] [⟨[2], [2], 4, [0, 1], []⟩, ⟨[], [], 5, [1, 3], []⟩, ⟨[], [], 6, [], []⟩] (by kernel_rfl) (by kernel_rfl) ?_; refine rn F ?_)
      | (refine vspineT (id := 12) [[], [0], [0, 1], [0, 1, 2], [0, 1, 2], [0, 1, 2, 3, 4], [0, 1, 2], [0, 1, 2, 6], [0, 1, 2, 6, 7], [0, 1, 2, 3, 4, 5, 6, 7, 8], [0, 1, 2, 3, 4, 5, 6, 7, 8, 9], [0, 1, 2, 3, 4, 5, 6, 7, 8, 9, 10], [0, 1, 2, 3, 4, 5, 6, 7, 8, 9, 10, 11], [0, 1, 2, 3, 4, 5, 6, 7, 8, 9, 10, 11], [0, 1, 2, 3, 4, 5, 6, 7, 8, 9, 10, 11], [0, 1, 2, 3, 4, 5, 6, 7, 8, 9, 10, 11, 13, 14], [0, 1, 2, 3, 4, 5, 6, 7, 8, 9, 10, 11, 12, 13, 14, 15], [0, 1, 2, 3, 4, 5, 6, 7, 8, 9, 10, 11], [0, 1, 2, 3, 4, 5, 6, 7, 8, 9, 10, 11, 17], [0, 1, 2, 3, 4, 5, 6, 7, 8, 9, 10, 11, 17, 18], [0, 1, 2, 3, 4, 5, 6, 7, 8, 9, 10, 11, 12, 13, 14, 15, 16, 17, 18, 19], [0, 1, 2, 3, 4, 5, 6, 7, 8, 9, 10, 11, 12, 13, 14, 15, 16, 17, 18, 19, 20], [0, 1, 2, 3, 4, 5, 6, 7, 8, 9, 10, 11, 12, 13, 14, 15, 16, 17, 18, 19, 20, 21], [0, 1, 2, 3, 4, 5, 6, 7, 8, 9, 10, 11, 12, 13, 14, 15, 16, 17, 18, 19, 20, 21, 22], [0, 1, 2, 3, 4, 5, 6, 7, 8, 9, 10, 11, 12, 13, 14, 15, 16, 17, 18, 19, 20, 21, 22], [0, 1, 2, 3, 4, 5, 6, 7, 8, 9, 10, 11, 12, 13, 14, 15, 16, 17, 18, 19, 20, 21, 22, 23, 24], [0, 1, 2, 3, 4, 5, 6, 7, 8, 9, 10, 11, 12, 13, 14, 15, 16, 17, 18, 19, 20, 21, 22, 23, 24, 25], [0, 1, 2, 3, 4, 5, 6, 7, 8, 9, 10, 11, 12, 13, 14, 15, 16, 17, 18, 19, 20, 21, 22, 23, 24, 25, 26], [0, 1, 2, 3, 4, 5, 6, 7, 8, 9, 10, 11, 12, 13, 14, 15, 16, 17, 18, 19, 20, 21, 22, 23, 24, 25, 26, 27], [0, 1, 2, 3, 4, 5, 6, 7, 8, 9, 10, 11, 12, 13, 14, 15, 16, 17, 18, 19, 20, 21, 22, 23, 24, 25, 26, 27], [0, 1, 2, 3, 4, 5, 6, 7, 8, 9, 10, 11, 12, 13, 14, 15, 16, 17, 18, 19, 20, 21, 22, 23, 24, 25, 26, 27, 29], [0, 1, 2, 3, 4, 5, 6, 7, 8, 9, 10, 11, 12, 13, 14, 15, 16, 17, 18, 19, 20, 21, 22, 23, 24, 25, 26, 27, 29, 30], [0, 1, 2, 3, 4, 5, 6, 7, 8, 9, 10, 11, 12, 13, 14, 15, 16, 17, 18, 19, 20, 21, 22, 23, 24, 25, 26, 27, 28, 29, 30, 31], [0, 1, 2, 3, 4, 5, 6, 7, 8, 9, 10, 11, 12, 13, 14, 15, 16, 17, 18, 19, 20, 21, 22, 23, 24, 25, 26, 27, 28, 29, 30, 31, 32], [0, 1, 2, 3, 4, 5, 6, 7, 8, 9, 10, 11, 12, 13, 14, 15, 16, 17, 18, 19, 20, 21, 22, 23, 24, 25, 26, 27, 28, 29, 30, 31, 32, 33]] [0, 1, 2, 3, 4, 6, 7, 8] [⟨[], [], 5, [6, 7, 8], [9, 10, 11, 12, 13, 14, 17, 18, 19]⟩, ⟨[], [], 15, [12, 17, 18, 19], []⟩, ⟨[], [], 16, [17, 18, 19], [20, 21, 22, 23, 24, 25, 26, 27, 28, 29, 30, 31, 32, 33]⟩, ⟨[], [], 34, [], []⟩] (by kernel_rfl) (by kernel_rfl) (by kernel_rfl) ?_; refine rn F ?_))
end
section
attribute [local go_sem] Rq.c cb cc
theorem xor8u (x y : UInt8) : bits .xor .u8 (x.toNat : Int) (y.toNat : Int) = ((x ^^^ y).toNat : Int) := by
  show IntKind.u8.wrap ((BitVec.ofInt 8 (x.toNat : Int) ^^^ BitVec.ofInt 8 (y.toNat : Int)).toNat : Int) = _
  have h : ∀ z : UInt8, BitVec.ofInt 8 (z.toNat : Int) = z.toBitVec := fun z => by
    apply BitVec.eq_of_toNat_eq
    have := z.toNat_lt
    simp
  rw [h, h, wrap_u8_eq]
  have e : (x.toBitVec ^^^ y.toBitVec).toNat = (x ^^^ y).toNat := rfl
  have := (x ^^^ y).toNat_lt
  rw [e]; omega
theorem set_midu (s : List UInt8) (k : Nat) (h : k < s.length) (z : UInt8) : s.take k ++ [z] ++ s.drop (k + 1) = s.set k z := by
  rw [List.set_eq_take_append_cons_drop, if_pos h]; simp
theorem find_in {r : Rq} (h : Run r) (k : Nat) (z : UInt8) (hz : z ≠ (bysR r).getD k 0) (i : Nat) (hi : i < (grps r.es).length) (g : List E) (he : (grps r.es).getD i [] = g) (a : Nat) (ha : a = 41 + szG ((grps r.es).take i).flatten) (hk : a ≤ k ∧ k < a + szG g) :
    VCalls prog 14 [.pv (.str ((bysR r).set k z)), .agg (idx r).c, .int .i64 (pgG g)] [] (RetS elD fun x => x.2 ≠ 0) := by
  have hG := run_grp h i hi
  rw [he] at hG
  obtain ⟨p1, p2⟩ := part_at h i hi g he a ha
  have hbl := bys_len h
  have c := rxfind_w h ((bysR r).set k z) (by rw [List.length_set]; omega) i hi g he a ha (by rw [List.length_set]; exact p1)
  have e : (((bysR r).set k z).take (a + szG g)).drop a = (g.flatMap frE).set (k - a) z := by
    rw [List.take_set, List.drop_set, if_neg (by omega), p2]
  rw [e] at c
  have hd := rdF_dmg (es := g) (fun e he => (hG.ok e he).1) (k - a) (by omega) z (by
    rw [← p2, List.getD_eq_getElem?_getD, List.getElem?_drop, List.getElem?_take, if_pos (by omega), show a + (k - a) = k by omega, ← List.getD_eq_getElem?_getD]
    exact hz)
  exact c.mono fun d h' ⟨e1, e2, x, e3, q⟩ => ⟨e1, e2, x, e3, fun h0 => by
    obtain ⟨b, hb⟩ := q.1 h0
    rw [hd] at hb
    cases hb⟩
theorem find_out {r : Rq} (h : Run r) (k : Nat) (z : UInt8) (i : Nat) (hi : i < (grps r.es).length) (g : List E) (he : (grps r.es).getD i [] = g) (a : Nat) (ha : a = 41 + szG ((grps r.es).take i).flatten) (hk : k < a ∨ a + szG g ≤ k) :
    VCalls prog 14 [.pv (.str ((bysR r).set k z)), .agg (idx r).c, .int .i64 (pgG g)] [] (Ret (elD (g, 0))) := by
  have hG := run_grp h i hi
  rw [he] at hG
  obtain ⟨p1, p2⟩ := part_at h i hi g he a ha
  have hbl := bys_len h
  have c := rxfind_w h ((bysR r).set k z) (by rw [List.length_set]; omega) i hi g he a ha (by rw [List.length_set]; exact p1)
  have e : (((bysR r).set k z).take (a + szG g)).drop a = g.flatMap frE := by
    rw [List.take_set]
    rcases hk with hk | hk
    · rw [List.drop_set, if_pos hk, p2]
    · rw [List.set_eq_of_length_le (by rw [List.length_take]; omega), p2]
  rw [e] at c
  have hr := rdF_frames (es := g) (fun e he => (hG.ok e he).1) g.length (Nat.le_refl _)
  rw [List.take_length] at hr
  exact c.mono fun d h' ⟨e1, e2, x, e3, q⟩ => by
    have := q.2 g hr (right_grp hG a)
    subst this e3 e1
    exact ⟨rfl, e2, rfl⟩
theorem row_found {r : Rq} (h : Run r) (i : Nat) (hi : i < (grps r.es).length) (g : List E) (he : (grps r.es).getD i [] = g) (a : Nat) (ha : a = 41 + szG ((grps r.es).take i).flatten) :
    VCalls prog 13 [.agg (idx r).c, .int .i64 (pgG g)] [] (Ret (.tup [.agg (roG a g).d, .bool true])) := by
  have hl := ros_le h
  have hx := row_ix h i hi
  rw [he] at hx
  have hrl := rosR_len r
  have c2 := rxrow_v (idx r) (by show (rosR r).length ≤ _; omega) (pgG g) (by show (idxP (rosR r) fun x => x.pg == pgG g) < _; rw [hx]; show (i : Int) < (rosR r).length; omega)
  have e : rowS (idx r).ro (pgG g) = (roG a g, true) := by
    unfold rowS
    rw [show (idxP (idx r).ro fun r => r.pg == pgG g) = i from hx, if_neg (by omega), Int.toNat_natCast, show (idx r).ro.getD i Ro0 = (rosR r).getD i Ro0 from rfl, rosR_at r i hi, he, ha]
    rfl
  rw [e] at c2
  exact c2
theorem row_none {r : Rq} (h : Run r) (p : Int) (hno : ∀ i, i < (grps r.es).length → pgG ((grps r.es).getD i []) ≠ p) :
    VCalls prog 13 [.agg (idx r).c, .int .i64 p] [] (Ret (.tup [.agg Ro0.d, .bool false])) := by
  have hl := ros_le h
  have hx := row_no hno
  have c2 := rxrow_v (idx r) (by show (rosR r).length ≤ _; omega) p (by show (idxP (rosR r) fun x => x.pg == p) < _; rw [hx]; omega)
  have e : rowS (idx r).ro p = (Ro0, false) := by unfold rowS; rw [if_pos (by show (idxP (rosR r) fun x => x.pg == p) < 0; rw [hx]; decide)]
  rw [e] at c2
  exact c2
theorem rielse_v (l : List UInt8) (hl : l.length ≤ 9223372036854775807) (t : Int) (ht : 0 ≤ t ∧ t ≤ 65535) (b : Int) (hb : 0 ≤ b ∧ b ≤ 255) : VCalls prog 5 [.pv (.sl (fz encU l)), .int .u16 t, .int .u8 b] [] (Ret (.bool true)) := by
  refine dd Tryz.func5 ?_
  have c0 := awake24_v
  (unfold Tryz.f5; refine rn trivial ?_)
  refine rn F ?_
  repeat' (first
    | with_reducible exact ⟨⟩
    | (refine sB F ?_ ?_ <;> intro hZ)
    | refine vp F (c0) ?_)
  all_goals first | (rfl; done) | skip
  refine vc_draw (most := 400) (by omega) (by omega) hl fun c => ?_
  refine rn trivial ?_
  refine vc_cx (k := 0) (c := c) (bytes24_v c) rfl rfl ?_
  rintro _ c1 ⟨r, hB, rfl⟩
  have h := runB_run hB
  have hd := h.hd
  have hle := h.len
  have c2 := rixbuild_v hB
  obtain ⟨y, rfl⟩ := byteOf b hb
  have hy0 : y ≠ 0 := fun h => by subst h; simp_all
  have hbl := bysR_len r
  have hb5 := bys_len h
  have hF1 := find_in h
  have hF2 := find_out h
  have hF3 := fun z p hp hno => rxfind_no h z p hp hno
  have hR1 := row_found h
  have hR2 := row_none h
  have hS := fun p => rsel_v r (by omega) p hB
  generalize bysR r = S at *
  obtain ⟨a, rfl⟩ : ∃ a : Nat, t = a := ⟨t.toNat, by omega⟩
  obtain ⟨m, hm, hm2⟩ := tmod_lt' a S.length (by omega)
  have hcw := fun (hp : Heap) (k o n : Nat) => conv_bts (hp := hp) (k := k) (off := o) (len := n) btsC
  have hg : S[m]? = some (S.getD m 0) := by rw [List.getD_eq_getElem?_getD, List.getElem?_eq_getElem hm2]; rfl
  have hx := xor8u (S.getD m 0) y
  have hxne := xor_ne (S.getD m 0) y hy0
  have hxl := UInt8.toNat_lt (S.getD m 0 ^^^ y)
  have hofn : UInt8.ofNat (S.getD m 0 ^^^ y).toNat = S.getD m 0 ^^^ y := by simp
  have hv1 := fun (hp : Heap) (n : Int) => @vcso_one hp n
  have q1 : m ≤ S.length := by omega
  have q2 : m + 1 ≤ S.length := by omega
  have q3 : (0 : Int) ≤ (m : Int) + 1 := by omega
  have q4 : ((m : Int) + 1).toNat = m + 1 := by omega
  have hset := set_midu S m hm2 (S.getD m 0 ^^^ y)
  generalize hz : S.getD m 0 ^^^ y = z at *
  have F := (And.intro @hm (And.intro @hcw (And.intro @hv1 (And.intro @hg (And.intro @hx (And.intro @q1 (And.intro @q2 (And.intro @q3 (And.intro @q4 @hofn)))))))))
  refine rn F ?_
  repeat' (first
    | with_reducible exact ⟨⟩
    | refine vp F (c2) ?_
    | (refine vspineT (id := 8) [[], [], [0, 1], [], [], [3, 4], [], [3, 4, 5, 6], [3, 4, 5, 6, 7], [3, 4, 5, 6, 7, 8], [0, 1, 2, 3, 4, 5, 6, 7, 8, 9], [], [], [12], [11, 12, 13], [0, 1, 2, 3, 4, 5, 6, 7, 8, 9, 10, 11, 12, 13, 14], [0, 1, 2, 3, 4, 5, 6, 7, 8, 9, 10, 11, 12, 13, 14, 15]] [0, 1, 2, 3, 4, 5, 6, 7, 11, 12, 13, 14] [⟨[], [], 8, [0, 1, 2, 11, 12, 13, 14], [9, 10, 15]⟩, ⟨[], [], 16, [], []⟩] (by kernel_rfl) (by kernel_rfl) (by kernel_rfl) ?_; refine rn F ?_))
  rw [hset]
  have hFI := fun i hi g he a ha hk => hF1 m z hxne i hi g he a ha hk
  have hFO := fun i hi g he a ha hk => hF2 m z i hi g he a ha hk
  have hFN := hF3 (S.set m z)
  have hGr := fun i hi => run_grp h i hi
  have hSN := fun (p : Int) (hno : ∀ i, i < (grps r.es).length → pgG ((grps r.es).getD i []) ≠ p) => by
    have := sel_no (run_grps h).1 (p := p) fun g hg => by
      obtain ⟨i, hi, rfl⟩ := List.getElem_of_mem hg
      rw [← getD_eq (grps r.es) i hi []]
      exact hno i hi
    rwa [(run_grps h).2] at this
  clear hF1 hF2 hF3
  generalize S.set m z = T at *
  generalize idx r = x at *
  refine vloopW (fun s0 : To (r.hi + 1 - r.lo).toNat => ⟨109, 0, [(13, .int .i64 (r.lo + s0.i)), (12, .pv (.str T)), (11, .int .i64 m), (9, .ptr 1 0), (8, .ptr 0 0)], [⟨26, true, r.c⟩, ⟨34, true, x.c⟩]⟩) (fun s0 => (r.hi + 1 - r.lo).toNat - s0.i) ⟨0, Nat.zero_le _⟩ (by dsimp only; rw [show r.lo + ((0 : Nat) : Int) = r.lo by omega]; exact (gc [1, 2])) ?_
  rintro ⟨n, hn⟩
  dsimp only
  by_cases hin : r.lo + n ≤ r.hi
  rotate_left
  · skip
    have F := trivial
    (refine rn F ?_; try with_reducible exact True.intro)
    all_goals first | rfl | (exfalso; omega)
  by_cases hex : ∃ i, i < (grps r.es).length ∧ pgG ((grps r.es).getD i []) = r.lo + n
  · obtain ⟨i, hi, hpi⟩ := hex
    obtain ⟨g, he⟩ : ∃ g, (grps r.es).getD i [] = g := ⟨_, rfl⟩
    rw [he] at hpi
    have hG := hGr i hi
    rw [he] at hG
    obtain ⟨a0, ha⟩ : ∃ a, a = 41 + szG ((grps r.es).take i).flatten := ⟨_, rfl⟩
    have d1 := hR1 i hi g he a0 ha
    have d2 := hS (pgG g)
    rw [hG.sel, hpi] at d2
    have d3 := rsame23_v g (by have := hG.len; omega)
    have hrow := hG.row
    have hsl := szG_flat_le (grps r.es) (i + 1)
    rw [take_flat_succ _ _ hi, szG_app, he, (run_grps h).2] at hsl
    unfold roG at d1
    rw [hpi] at d1
    by_cases hk : a0 ≤ m ∧ m < a0 + szG g
    · have d4 := hFI i hi g he a0 ha hk
      rw [hpi] at d4
      generalize szG g = sz at *
      have F := trivial
      refine rn F ?_
      repeat' (first
        | with_reducible exact ⟨⟩
        | refine vp F (d1) ?_
        | (refine vc_S (d4) rfl ?_; rintro ⟨o, er⟩ her; refine rn F ?_))
      all_goals first
        | (exfalso; dsimp only at her; omega)
        | exact ⟨⟨n + 1, by omega⟩, by dsimp only; omega, by dsimp only; rw [show r.lo + ((n + 1 : Nat) : Int) = r.lo + n + 1 by omega]; exact (gc [0, 1])⟩
        | skip
    · have d4 := hFO i hi g he a0 ha (by omega)
      rw [hpi] at d4
      generalize szG g = sz at *
      have F := trivial
      refine rn F ?_
      repeat' (first
        | with_reducible exact ⟨⟩
        | (refine sG F ?_ ?_ <;> intro hZ)
        | refine vp F (d1) ?_
        | refine vp F (d2) ?_
        | refine vp F (d3) ?_
        | refine vp F (d4) ?_)
      all_goals first
        | (exfalso; omega)
        | exact ⟨⟨n + 1, by omega⟩, by dsimp only; omega, by dsimp only; rw [show r.lo + ((n + 1 : Nat) : Int) = r.lo + n + 1 by omega]; exact (gc [0, 1])⟩
        | skip
  · have hno : ∀ i, i < (grps r.es).length → pgG ((grps r.es).getD i []) ≠ r.lo + n := fun i hi e => hex ⟨i, hi, e⟩
    have d1 := hR2 _ hno
    have d2 := hS (r.lo + n)
    rw [hSN _ hno] at d2
    have d3 := rsame23_v [] (by decide)
    have d4 := hFN (r.lo + n) ⟨by omega, by omega⟩ hno
    have F := trivial
    refine rn F ?_
    repeat' (first
      | with_reducible exact ⟨⟩
      | refine vp F (d1) ?_
      | refine vp F (d2) ?_
      | refine vp F (d3) ?_
      | refine vp F (d4) ?_)
    all_goals first
      | (exfalso; omega)
      | exact ⟨⟨n + 1, by omega⟩, by dsimp only; omega, by dsimp only; rw [show r.lo + ((n + 1 : Nat) : Int) = r.lo + n + 1 by omega]; exact (gc [0, 1])⟩
      | skip
end
section
open Go.ChangeShapes Go.WideShapes
theorem rows_I (xs : List (List PV)) (h : ∀ c ∈ xs, c.length = 1 ∧ ∀ (i : Nat) (k : CK), [CK.pl (.int .i64)][i]? = some k → ∃ d, c[i]? = some d ∧ OkC k d) : ∃ l : List Int, xs = fz encI l ∧ l.length = xs.length := by
  induction xs with
  | nil => exact ⟨[], rfl, rfl⟩
  | cons c r ih =>
    obtain ⟨l, h1, h2⟩ := ih fun c hc => h c (List.mem_cons_of_mem _ hc)
    obtain ⟨g1, g2⟩ := h c (List.mem_cons_self)
    obtain ⟨d0, e0, n0, rfl, _⟩ := g2 0 _ rfl
    match c, g1 with
    | [a0], _ =>
      simp at e0
      subst e0
      exact ⟨n0 :: l, by rw [h1]; rfl, by simp [h2]⟩
theorem arg_ints {H : Type} {enc : TypeId × Value → H} {r0 : Reach} {b0 : Nat} {W : World} {v : Value} {d : DataW H} {ps : List MemPlace} (hval : Value.okWide prog W r0 b0 48 v) (h : DataW.Trod enc prog W 0 (fun _ => true) true 48 v d ps) :
    ∃ l : List Int, RelD W β0 [] (.pv (.sl (fz encI l))) v ∧ l.length ≤ maxLen := by
  obtain ⟨xs, h1, h2, h3⟩ := arg_rows (n := 8) (e := 3) (r := [.pl (.int .i64)]) Tryz.underlying48 (by kernel_rfl) (by kernel_rfl) (by decide) hval h
  obtain ⟨l, rfl, hl⟩ := rows_I xs h3
  exact ⟨l, h1, by omega⟩
end
end Go.Proofs.YtfabboefambbjaaGreat
