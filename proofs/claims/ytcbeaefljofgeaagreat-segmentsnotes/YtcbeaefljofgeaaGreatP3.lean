/-
  Contracts of functions and plain laws. No condition.
-/
import Derived.Test.YtcbeaefljofgeaaGreatP1
import Derived.Test.YtcbeaefljofgeaaGreatV3
import Derived.Test.YtcbeaefljofgeaaGreatP2
set_option linter.unusedSimpArgs false
set_option linter.unusedVariables false
set_option maxRecDepth 100000
set_option maxHeartbeats 8000000
namespace Go.Proofs.YtcbeaefljofgeaaGreat
open Go.V Go
open Tryz (prog)
section
attribute [local go_sem] cb cc
theorem byteOf (b : Int) (hb : 0 ≤ b ∧ b ≤ 255) : ∃ y : UInt8, b = (y.toNat : Int) := ⟨UInt8.ofNat b.toNat, by simp only [UInt8.toNat_ofNat']; omega⟩
theorem make_ite0 {α : Type} {n : Nat} {A B : α} (hn : n ≤ 1000000000) : (if 0 ≤ (n : Int) ∧ ((1 : Nat) : Int) * n ≤ 281474976710656 ∧ (n : Int) ≤ 9223372036854775807 then A else B) = A :=
  if_pos ⟨by omega, by omega, by omega⟩
abbrev Dx (n : Nat) : DV → Prop := fun r => ∃ t : List UInt8, r = .pv (.str t) ∧ t.length ≤ n
structure DSt (n : Nat) where
  c : C
  l : List UInt8
  hl : l.length ≤ n
theorem data_v (c : C) : VCalls prog 101 [.ptr 0 0] [cb c] (CX (Dx 13)) := by
  refine dd Tryz.func101 ?_
  (unfold Tryz.f101; refine rn trivial ?_)
  refine vc_cx (k := 0) (c := c) (next_v c 5 (by omega) (by omega)) rfl rfl ?_
  rintro _ c1 ⟨z, rfl, hz⟩
  refine rn trivial ?_
  refine vc_cx (k := 0) (c := c1) (next_v c1 6 (by omega) (by omega)) rfl rfl ?_
  rintro _ c2 ⟨z2, rfl, hz2⟩
  have hcw := fun (hp : Heap) (k o n : Nat) => conv_bts (hp := hp) (k := k) (off := o) (len := n) btsC
  have mk := fun (n : Nat) (h : n ≤ 1000000000) (A B : Option (DV × Heap)) => make_ite0 (n := n) (A := A) (B := B) h
  refine rn F ?_
  repeat' (first
    | with_reducible exact ⟨⟩
    | (refine sB F ?_ ?_ <;> intro hZ))
  case' refine_1 =>
    refine vc_cx (k := 0) (c := c2) (next_v c2 14 (by omega) (by omega)) rfl rfl ?_
    rintro _ c3 ⟨n, rfl, hn⟩
  case' refine_2 =>
    obtain ⟨n, rfl, hn⟩ : ∃ n : Nat, n = z ∧ n < 14 := ⟨z, rfl, by omega⟩
    obtain ⟨c3, rfl⟩ : ∃ c3, c3 = c2 := ⟨c2, rfl⟩
  all_goals
    have hm := fun A B => mk n (by omega) A B
    have hr : List.replicate 0 (0 : UInt8) = [] := rfl
    refine rn (And.intro @hm @hr) ?_
    refine vloopW (fun i : DSt n => ⟨29, 1, [(5, .int .i64 i.l.length), (3, .int .i64 n), (4, .own 1 1 0 i.l.length), (0, .ptr 0 0)], [cb i.c, ⟨5, true, cells encU i.l⟩]⟩) (fun i => n - i.l.length) ⟨c3, [], Nat.zero_le _⟩ (gc [0, 1]) ?_
    rintro ⟨c4, l, hl⟩
    dsimp only
    have hvc := fun hp : Heap => @vcso_cells hp l _ rfl
    by_cases hc : l.length < n
    · skip
      refine rn F ?_
      refine vc_cx (k := 0) (c := c4) (next_v c4 3 (by omega) (by omega)) rfl rfl ?_
      rintro r c5 ⟨y, rfl, hy⟩
      obtain ⟨u, hu⟩ : ∃ u : UInt8, 97 + (y : Int) = (u.toNat : Int) := byteOf _ (by omega)
      have e2 : cells encU l ++ [.pv (.lit (.int .u8 u.toNat))] = cells encU (l ++ [u]) := (cells_app encU l [u]).symm
      have e3 : (cells encU l).take l.length = cells encU l := by rw [List.take_of_length_le]; rw [cellsU_len]; exact Nat.le_refl _
      have hub : u.toNat < 256 := u.toNat_lt
      have hs2 : l.length ≤ 140737488355327 := by omega
      refine rn (And.intro @hu (And.intro @hs2 (And.intro @e3 @e2))) ?_
      have hl2 : (l ++ [u]).length = l.length + 1 := by simp
      refine ⟨⟨c5, l ++ [u], by rw [hl2]; omega⟩, by dsimp only; rw [hl2]; omega, ?_⟩
      dsimp only
      rw [hl2]
      exact (gc [0, 3])
    · skip
      have F := (And.intro @hcw @hvc)
      refine rn F ?_
      exact ⟨_, rfl, rfl, cc_nums _, rfl, ⟨_, rfl, by omega⟩, c4, rfl⟩
end
section
structure RQ (s : List UInt8) where
  at_ : Nat
  sh : Bool
  ha : at_ ≤ s.length
def rbQ (T : TypeId) (s : List UInt8) (r : RQ s) : Blk := ⟨T, true, [.pv (.str s), .int .i64 r.at_, .bool r.sh]⟩
theorem rb_nums (T : TypeId) (s : List UInt8) (r : RQ s) : DV.nums.go (fun _ => false) (rbQ T s r).cells = true := rfl
def numS (s : List UInt8) (k : Nat) (r : RQ s) : Int × RQ s :=
  if h : r.sh = true ∨ ¬ r.at_ + k ≤ s.length then (0, ⟨r.at_, true, r.ha⟩) else (IntKind.i64.wrap (accX s r.at_ k), ⟨r.at_ + k, false, by omega⟩)
theorem numS_sh {s : List UInt8} {k : Nat} {r : RQ s} (h : r.sh = true ∨ ¬ r.at_ + k ≤ s.length) : numS s k r = (0, ⟨r.at_, true, r.ha⟩) := by unfold numS; rw [dif_pos h]
theorem numS_ok {s : List UInt8} {k : Nat} {r : RQ s} (h : r.sh = false) (h' : r.at_ + k ≤ s.length) : numS s k r = (IntKind.i64.wrap (accX s r.at_ k), ⟨r.at_ + k, false, h'⟩) := by
  unfold numS; rw [dif_neg (fun z => z.elim (fun z => by rw [h] at z; cases z) (fun z => z h'))]
def RQ.lim {s : List UInt8} (r : RQ s) : Nat := r.at_ + (if r.sh then 4 else 0)
theorem RQ.lim_le {s : List UInt8} (r : RQ s) : r.lim ≤ s.length + 4 := by have := r.ha; unfold RQ.lim; split <;> omega
theorem numS_lim1 {s : List UInt8} {k : Nat} (hk : 4 ≤ k) (r : RQ s) (hr : r.sh = false) : r.lim + 4 ≤ (numS s k r).2.lim := by
  by_cases h : r.at_ + k ≤ s.length
  · rw [numS_ok hr h]; simp only [RQ.lim, hr]; simp; omega
  · rw [numS_sh (.inr h)]; simp only [RQ.lim, hr]; simp
theorem numS_lim {s : List UInt8} {k : Nat} (r : RQ s) : r.lim ≤ (numS s k r).2.lim := by
  cases hr : r.sh
  · by_cases h : r.at_ + k ≤ s.length
    · rw [numS_ok hr h]; simp only [RQ.lim, hr]; simp
    · rw [numS_sh (.inr h)]; simp only [RQ.lim, hr]; simp
  · rw [numS_sh (.inl hr)]; simp only [RQ.lim, hr]; simp
theorem numS_rng {s : List UInt8} {k : Nat} (r : RQ s) : -9223372036854775808 ≤ (numS s k r).1 ∧ (numS s k r).1 ≤ 9223372036854775807 := by
  unfold numS
  split
  · dsimp only; omega
  · dsimp only; rw [IntKind.wrap_i64]; omega
def rdN (s : List UInt8) : Nat → List Int → RQ s → List Int × RQ s
  | 0, out, r => (out, r)
  | n + 1, out, r => if r.sh = true then (out, r) else rdN s n (out ++ [(numS s 8 r).1]) (numS s 8 r).2
theorem rdN_sh {s : List UInt8} {n : Nat} {out : List Int} {r : RQ s} (h : r.sh = true) : rdN s n out r = (out, r) := by cases n; rfl; rw [rdN, if_pos h]
theorem rdN_lim {s : List UInt8} : ∀ (n : Nat) (out : List Int) (r : RQ s), 4 * out.length ≤ r.lim → 4 * (rdN s n out r).1.length ≤ (rdN s n out r).2.lim ∧ r.lim ≤ (rdN s n out r).2.lim
  | 0, _, _, h => ⟨h, Nat.le_refl _⟩
  | n + 1, out, r, h => by
    unfold rdN
    split
    · exact ⟨h, Nat.le_refl _⟩
    · rename_i hr
      have h1 := numS_lim1 (k := 8) (by omega) r (by simpa using hr)
      have h2 := rdN_lim n (out ++ [(numS s 8 r).1]) (numS s 8 r).2 (by simp; omega)
      exact ⟨h2.1, by omega⟩
def listS (s : List UInt8) (k : Nat) (r : RQ s) : List Int × RQ s := rdN s (numS s k r).1.toNat [] (numS s k r).2
theorem listS_len {s : List UInt8} {k : Nat} (r : RQ s) : 4 * (listS s k r).1.length ≤ s.length + 4 := Nat.le_trans (rdN_lim _ _ _ (Nat.zero_le _)).1 (RQ.lim_le _)
theorem listS_lim {s : List UInt8} {k : Nat} (r : RQ s) : r.lim ≤ (listS s k r).2.lim := Nat.le_trans (numS_lim r) (rdN_lim _ _ _ (Nat.zero_le _)).2
def txS (s : List UInt8) (r : RQ s) : Tx × RQ s :=
  let a := numS s 4 r
  let b := numS s 1 a.2
  let c := numS s 8 b.2
  let d := numS s 8 c.2
  let q := listS s 2 d.2
  let v := listS s 1 q.2
  (⟨a.1, b.1, c.1, d.1, q.1, v.1⟩, v.2)
theorem txS_lim1 {s : List UInt8} (r : RQ s) (hr : r.sh = false) : r.lim + 4 ≤ (txS s r).2.lim := by
  have h1 := numS_lim1 (k := 4) (by omega) r hr
  refine Nat.le_trans h1 ?_
  unfold txS
  refine Nat.le_trans (numS_lim _) (Nat.le_trans (numS_lim _) (Nat.le_trans (numS_lim _) (Nat.le_trans (listS_lim _) (listS_lim _))))
theorem txS_sm {s : List UInt8} (hs : s.length ≤ 3000000) (r : RQ s) : (txS s r).1.sm := ⟨by have := listS_len (k := 2) (numS s 8 (numS s 8 (numS s 1 (numS s 4 r).2).2).2).2; show (listS s 2 _).1.length ≤ _; omega, by have := listS_len (k := 1) (listS s 2 (numS s 8 (numS s 8 (numS s 1 (numS s 4 r).2).2).2).2).2; show (listS s 1 _).1.length ≤ _; omega⟩
def rdT (s : List UInt8) : Nat → List Tx → RQ s → List Tx × RQ s
  | 0, out, r => (out, r)
  | n + 1, out, r => if r.sh = true then (out, r) else rdT s n (out ++ [(txS s r).1]) (txS s r).2
theorem rdT_sh {s : List UInt8} {n : Nat} {out : List Tx} {r : RQ s} (h : r.sh = true) : rdT s n out r = (out, r) := by cases n; rfl; rw [rdT, if_pos h]
theorem rdT_lim {s : List UInt8} : ∀ (n : Nat) (out : List Tx) (r : RQ s), 4 * out.length ≤ r.lim → 4 * (rdT s n out r).1.length ≤ (rdT s n out r).2.lim
  | 0, _, _, h => h
  | n + 1, out, r, h => by
    unfold rdT
    split
    · exact h
    · rename_i hr
      have h1 := txS_lim1 r (by simpa using hr)
      exact rdT_lim n (out ++ [(txS s r).1]) (txS s r).2 (by simp; omega)
theorem rdT_sm {s : List UInt8} (hs : s.length ≤ 3000000) : ∀ (n : Nat) (out : List Tx) (r : RQ s), (∀ t ∈ out, t.sm) → ∀ t ∈ (rdT s n out r).1, t.sm
  | 0, _, _, h => h
  | n + 1, out, r, h => by
    unfold rdT
    split
    · exact h
    · refine rdT_sm hs n _ _ fun t ht => ?_
      rcases List.mem_append.1 ht with h1 | h1
      · exact h t h1
      · rw [List.mem_singleton.1 h1]; exact txS_sm hs r
def rq0 (s : List UInt8) : RQ s := ⟨0, false, Nat.zero_le _⟩
def rdA (s : List UInt8) : List Tx × RQ s := rdT s (numS s 2 (rq0 s)).1.toNat [] (numS s 2 (rq0 s)).2
theorem rdA_sm {s : List UInt8} (hs : s.length ≤ 3000000) : smL (rdA s).1 :=
  ⟨by have := rdT_lim (numS s 2 (rq0 s)).1.toNat [] (numS s 2 (rq0 s)).2 (Nat.zero_le _); have h2 := (rdA s).2.lim_le; unfold rdA at h2 ⊢; omega, rdT_sm hs _ _ _ (by simp)⟩
def decT (s : List UInt8) : List Tx × Int :=
  if (rdA s).2.sh = true then ([], 5) else if ((rdA s).2.at_ : Int) ≠ s.length then ([], 4) else if tblB (rdA s).1 = false then ([], 15) else ((rdA s).1, 0)
abbrev RY (T : TypeId) (s : List UInt8) (v : DV) (q : RQ s) : DV → Heap → Prop := fun r h' => ∃ B', h' = [B'] ∧ B'.live = true ∧ DV.nums.go (fun _ => false) B'.cells = true ∧ r.nums (fun _ => false) = true ∧ (r = v ∧ B' = rbQ T s q)
theorem vc_ry {g : FuncId} {args : List DV} {hp : Heap} {k : Nat} {T : TypeId} {s : List UInt8} {r q : RQ s} {v : DV} {K : DV → Heap → Prop} (h : VCalls prog g (args.map (DV.ren fun _ => 0)) [rbQ T s r] (RY T s v q)) (hk : hp[k]? = some (rbQ T s r))
    (ha : DV.nums.go (fun i => i == k) args = true) (hK : K v (hp.set k (rbQ T s q))) : VCalls prog g args hp K :=
  (VCalls.ptr1 (R := fun x B' => x = v ∧ B' = rbQ T s q) hk rfl (rb_nums T s r) h ha).mono fun x h' ⟨B', e1, _, _, e2, e3⟩ => by subst e1 e2 e3; exact hK
attribute [local go_sem] rbQ
attribute [local go_sem] lenT allT appT slkT srcT frzT app_T
@[go_sem] def lb (l : List Int) : DV := .pv (.sl (fz encI l))
theorem rnumb_v (s : List UInt8) (hs : s.length ≤ 3000000) (k : Nat) (h1 : 1 ≤ k) (h8 : k ≤ 8) (r : RQ s) : VCalls prog 248 [.ptr 0 0, .int .i64 k] [rbQ 342 s r] (RY 342 s (.int .i64 (numS s k r).1) (numS s k r).2) := by
  refine dd Tryz.func248 ?_
  have ha := r.ha
  by_cases h : r.at_ + k ≤ s.length
  · have c1 := rget_v s (by omega) r.at_ k ⟨h1, h8⟩ h
    cases hr : r.sh
    · rw [numS_ok hr h]
      (unfold Tryz.f248; refine rn trivial ?_)
      have F := @hr
      refine rn F ?_
      repeat' (first
        | with_reducible exact ⟨⟩
        | refine vp F (c1) ?_
        | (refine vspine (id := 1) [0, 1, 2, 3, 4, 5, 6, 7, 8] [⟨[], [], 9, [0, 1, 2, 4, 5, 6], [10, 11, 12]⟩, ⟨[], [], 13, [12], []⟩, ⟨[], [], 14, [], []⟩] (by kernel_rfl) (by kernel_rfl) ?_; refine rn F ?_))
      all_goals exact ⟨_, rfl, rfl, rfl, rfl, rfl, rfl⟩
    · rw [numS_sh (.inl hr)]
      (unfold Tryz.f248; refine rn trivial ?_)
      have F := @hr
      refine rn F ?_
      repeat' (first
        | with_reducible exact ⟨⟩
        | refine vp F (c1) ?_
        | (refine vspine (id := 1) [0, 1, 2, 3, 4, 5, 6, 7, 8] [⟨[], [], 9, [0, 1, 2, 4, 5, 6], [10, 11, 12]⟩, ⟨[], [], 13, [12], []⟩, ⟨[], [], 14, [], []⟩] (by kernel_rfl) (by kernel_rfl) ?_; refine rn F ?_))
      all_goals exact ⟨_, rfl, rfl, rfl, rfl, rfl, (by first | rfl | simp only [rbQ, hr])⟩
  · have c1 := rget_short s r.at_ k (by omega) (by omega) (by omega)
    rw [numS_sh (.inr h)]
    (unfold Tryz.f248; refine rn trivial ?_)
    have F := trivial
    refine rn F ?_
    repeat' (first
      | with_reducible exact ⟨⟩
      | (refine sG F ?_ ?_ <;> intro hZ)
      | refine vp F (c1) ?_
      | (refine vspine (id := 1) [0, 1, 2, 3, 4, 5, 6, 7, 8] [⟨[], [], 9, [0, 1, 2, 4, 5, 6], [10, 11, 12]⟩, ⟨[], [], 13, [12], []⟩, ⟨[], [], 14, [], []⟩] (by kernel_rfl) (by kernel_rfl) ?_; refine rn F ?_))
    all_goals exact ⟨_, rfl, rfl, rfl, rfl, rfl, rfl⟩
structure LSrnum (s : List UInt8) (fin : List Int × RQ s) where
  n : Int
  out : List Int
  r : RQ s
  hn : -9223372036854775808 ≤ n ∧ n ≤ 9223372036854775807
  ho : 4 * out.length ≤ r.lim
  he : rdN s n.toNat out r = fin
theorem rlst_v (s : List UInt8) (hs : s.length ≤ 3000000) (k : Nat) (h1 : 1 ≤ k) (h8 : k ≤ 8) (r : RQ s) : VCalls prog 249 [.ptr 0 0, .int .i64 k] [rbQ 342 s r] (RY 342 s (lb (listS s k r).1) (listS s k r).2) := by
  refine dd Tryz.func249 ?_
  (unfold Tryz.f249; refine rn trivial ?_)
  refine vc_ry (k := 0) (rnumb_v s hs k h1 h8 r) rfl rfl ?_
  refine rn trivial ?_
  refine VLoop.nilOwn 5 3 1 rfl ?_
  refine vloopW (fun t : LSrnum s (listS s k r) => ⟨27, 1, [(6, .int .i64 t.n), (5, .own 1 1 0 t.out.length), (0, .ptr 0 0)], [rbQ 342 s t.r, ⟨3, true, cells encI t.out⟩]⟩) (fun t => t.n.toNat) ⟨(numS s k r).1, [], (numS s k r).2, numS_rng r, Nat.zero_le _, rfl⟩ (gc [0, 1]) ?_
  rintro ⟨n, out, q, hn, ho, he⟩
  dsimp only
  have hl := q.lim_le
  have hl1 : out.length + 1 ≤ 1000000 := by omega
  have hb : (out.length + 1) * 8 ≤ 140737488355328 := by omega
  obtain ⟨a, sh, ha⟩ := q
  cases sh
  · by_cases h0 : 0 < n
    · have e : n.toNat = (n - 1).toNat + 1 := by omega
      rw [e, rdN, if_neg (by simp)] at he
      have hm := numS_lim1 (k := 8) (by omega) (⟨a, false, ha⟩ : RQ s) rfl
      have F := (And.intro @h0 (And.intro @app_I @hb))
      refine rn F ?_
      refine vc_ry (k := 0) (rnumb_v s hs 8 (by omega) (by omega) ⟨a, false, ha⟩) rfl rfl ?_
      have F := (And.intro @app_I @hb)
      refine rn F ?_
      refine ⟨⟨n - 1, _, _, by omega, by simp; omega, he⟩, by show (n - 1).toNat < n.toNat; omega, ?_⟩
      dsimp only
      rw [List.length_append]
      exact (gc [0, 3])
    · have e : n.toNat = 0 := by omega
      rw [e, rdN] at he
      have F := (And.intro @app_I @hb)
      (refine rn F ?_; try with_reducible exact ⟨⟩)
      all_goals exact ⟨_, rfl, rfl, rfl, rfl, (by rw [← he]; try rfl), (by rw [← he]; try rfl)⟩
  · rw [rdN_sh rfl] at he
    have F := (And.intro @app_I @hb)
    refine rn F ?_
    repeat' (first
      | with_reducible exact ⟨⟩
      | (refine sG F ?_ ?_ <;> intro hZ))
    all_goals exact ⟨_, rfl, rfl, rfl, rfl, (by rw [← he]; try rfl), (by rw [← he]; try rfl)⟩
structure DTrnum (s : List UInt8) where
  n : Int
  out : List Tx
  r : RQ s
  hn : -9223372036854775808 ≤ n ∧ n ≤ 9223372036854775807
  ho : 4 * out.length ≤ r.lim
  he : rdT s n.toNat out r = rdA s
theorem rtdecode_v (s : List UInt8) (hs : s.length ≤ 3000000) : VCalls prog 246 [.pv (.str s)] [] (Ret (tblD (decT s))) := by
  refine VCalls.unwk ?_
  refine dd Tryz.func246 ?_
  (unfold Tryz.f246; refine rn trivial ?_)
  refine vc_ry (k := 0) (rnumb_v s hs 2 (by omega) (by omega) (rq0 s)) rfl rfl ?_
  refine rn trivial ?_
  refine VLoop.nilOwn 5 209 6 rfl ?_
  refine vloopW (fun t : DTrnum s => ⟨64, 0, [(6, .int .i64 t.n), (5, .own 1 6 0 t.out.length), (4, .ptr 0 0), (0, .pv (.str s))], [rbQ 342 s t.r, ⟨209, true, cells encT t.out⟩]⟩) (fun t => t.n.toNat) ⟨(numS s 2 (rq0 s)).1, [], (numS s 2 (rq0 s)).2, numS_rng _, Nat.zero_le _, rfl⟩ (gc [0, 1]) ?_
  rintro ⟨n, out, q, hn, ho, he⟩
  dsimp only
  have hl := q.lim_le
  have hb : (out.length + 1) * 80 ≤ 140737488355328 := by omega
  have hsm := rdA_sm hs
  have ed : decT s = if (rdA s).2.sh = true then ([], 5) else if ((rdA s).2.at_ : Int) ≠ s.length then ([], 4) else if tblB (rdA s).1 = false then ([], 15) else ((rdA s).1, 0) := rfl
  obtain ⟨a, sh, ha⟩ := q
  cases sh
  · by_cases h0 : 0 < n
    · have e : n.toNat = (n - 1).toNat + 1 := by omega
      rw [e, rdT, if_neg (by simp)] at he
      have hm := txS_lim1 (⟨a, false, ha⟩ : RQ s) rfl
      simp only [txS] at he hm
      have cA := rnumb_v s hs 4 (by omega) (by omega) ⟨a, false, ha⟩
      generalize numS s 4 ⟨a, false, ha⟩ = A at cA he hm
      have cB := rnumb_v s hs 1 (by omega) (by omega) A.2
      generalize numS s 1 A.2 = B at cB he hm
      have cC := rnumb_v s hs 8 (by omega) (by omega) B.2
      generalize numS s 8 B.2 = C at cC he hm
      have cD := rnumb_v s hs 8 (by omega) (by omega) C.2
      generalize numS s 8 C.2 = D at cD he hm
      have cE := rlst_v s hs 2 (by omega) (by omega) D.2
      generalize listS s 2 D.2 = E at cE he hm
      have cF := rlst_v s hs 1 (by omega) (by omega) E.2
      generalize listS s 1 E.2 = W at cF he hm
      have F := (And.intro @h0 (And.intro @app_T @hb))
      refine rn F ?_
      refine vc_ry (k := 0) cA rfl rfl ?_
      have F := (And.intro @h0 (And.intro @app_T @hb))
      refine rn F ?_
      refine vc_ry (k := 0) cB rfl rfl ?_
      have F := (And.intro @h0 (And.intro @app_T @hb))
      refine rn F ?_
      refine vc_ry (k := 0) cC rfl rfl ?_
      have F := (And.intro @h0 (And.intro @app_T @hb))
      refine rn F ?_
      refine vc_ry (k := 0) cD rfl rfl ?_
      have F := (And.intro @h0 (And.intro @app_T @hb))
      refine rn F ?_
      refine vc_ry (k := 0) cE rfl rfl ?_
      have F := (And.intro @h0 (And.intro @app_T @hb))
      refine rn F ?_
      refine vc_ry (k := 0) cF rfl rfl ?_
      have F := (And.intro @h0 (And.intro @app_T @hb))
      refine rn F ?_
      refine ⟨⟨n - 1, _, _, by omega, by simp; omega, he⟩, by show (n - 1).toNat < n.toNat; omega, ?_⟩
      dsimp only
      have e2 : cells encT out ++ [.pv (.lit (.int .i64 A.1)), .pv (.lit (.int .i64 B.1)), .pv (.lit (.int .i64 C.1)), .pv (.lit (.int .i64 D.1)), .pv (.sl (fz encI E.1)), .pv (.sl (fz encI W.1))] = cells encT (out ++ [⟨A.1, B.1, C.1, D.1, E.1, W.1⟩]) := app_T out ⟨A.1, B.1, C.1, D.1, E.1, W.1⟩
      rw [List.length_append]
      rw [e2]
      exact (gc [0, 4])
    · have e : n.toNat = 0 := by omega
      rw [e, rdT] at he
      rw [← he] at ed hsm
      have c1 := rtvalid_v out hsm
      rw [ed]
      by_cases h1 : (a : Int) = s.length
      · cases hv : tblB out
        · rw [hv] at c1
          dsimp only
          rw [if_neg (by simp), if_neg (by simpa using h1), if_pos (by first | rfl | exact hv)]
          have F := (And.intro @h0 (And.intro @h1 @hb))
          refine rn F ?_
          repeat' (first
            | with_reducible exact ⟨⟩
            | refine vl F (c1) ?_)
          all_goals first | rfl | contradiction
        · rw [hv] at c1
          dsimp only
          rw [if_neg (by simp), if_neg (by simpa using h1), if_neg (by first | simp; done | (rw [hv]; simp))]
          have F := (And.intro @h0 (And.intro @h1 @hb))
          refine rn F ?_
          repeat' (first
            | with_reducible exact ⟨⟩
            | refine vl F (c1) ?_)
          all_goals first | rfl | contradiction
      · dsimp only
        rw [if_neg (by simp), if_pos (by simpa using h1)]
        have F := (And.intro @h0 (And.intro @h1 @hb))
        (refine rn F ?_; try with_reducible exact ⟨⟩)
        all_goals first | rfl | contradiction
  · rw [rdT_sh rfl] at he
    rw [← he] at ed
    rw [ed]
    dsimp only
    rw [if_pos rfl]
    have F := @hb
    refine rn F ?_
    repeat' (first
      | with_reducible exact ⟨⟩
      | (refine sG F ?_ ?_ <;> intro hZ))
    all_goals first | rfl | contradiction
end
section
attribute [local go_sem] iteLe
@[go_sem] def tbD (a : Tx × Bool) : DV := .tup [.agg a.1.d, .bool a.2]
theorem rending_w (k : Kn) (h : k.sm) (tx : Int) : VCalls prog 128 [.agg k.d, .int .i64 tx] [] (RetS tbD fun _ => True) := by
  refine dk Tryz.func128 ?_
  have c1 := rkvalid_w k h
  have c2 := rfind_v k.tx (Nat.le_trans h.2.2.2.1.1 (by decide)) tx
  rcases idT_cases k.tx tx with hn | ⟨i, hil, hid, _⟩
  · rw [hn] at c2
    (unfold Tryz.f128; refine rn trivial ?_)
    refine rn F ?_
    repeat' (first
      | with_reducible exact ⟨⟩
      | (refine sB F ?_ ?_ <;> intro hZ)
      | (refine vc_S (c1) rfl ?_; rintro b -; refine rn F ?_)
      | refine vp F (c2) ?_)
    all_goals exact ⟨rfl, rfl, (Tx0, false), rfl, trivial⟩
  rw [hid] at c2
  have hg := fzT_g k.tx i hil
  (unfold Tryz.f128; refine rn trivial ?_)
  have F := @hg
  refine rn F ?_
  repeat' (first
    | with_reducible exact ⟨⟩
    | (refine sB F ?_ ?_ <;> intro hZ)
    | (refine vc_S (c1) rfl ?_; rintro b hb; refine rn F ?_)
    | refine vp F (c2) ?_)
  all_goals first
    | exact ⟨rfl, rfl, (k.tx.getD i Tx0, true), rfl, trivial⟩
    | exact ⟨rfl, rfl, (Tx0, false), rfl, trivial⟩
    | skip
@[go_sem] def blkD (a : Int × Int × Int × Bool) : DV := .tup [.int .i64 a.1, .agg [.int .i64 a.2.1, .int .i64 a.2.2.1], .bool a.2.2.2]
theorem rblocker_w (k : Kn) (h : k.sm) (tx : Int) : VCalls prog 105 [.agg k.d, .int .i64 tx] [] (RetS blkD fun _ => True) := by
  refine dk Tryz.func105 ?_
  have h3 := h.2.2.1
  have c1 := rwaiting_w k.lk (by omega) tx
  have c2 := rfor_w k.lk (by omega) tx
  have c3 := fun n => rending_w k h n
  (unfold Tryz.f105; refine rn trivial ?_)
  refine rn F ?_
  repeat' (first
    | with_reducible exact ⟨⟩
    | (refine sB F ?_ ?_ <;> intro hZ)
    | (refine vc_S (c1) rfl ?_; rintro ⟨g, b⟩ -; refine rn F ?_)
    | (refine vc_S (c2) rfl ?_; rintro l hl; refine rn F ?_))
  all_goals first
    | exact ⟨rfl, rfl, (0, 0, 0, false), rfl, trivial⟩
    | skip
  refine vloopW (fun s : To l.length => ⟨44, 0, [(28, .int .i64 s.i), (27, .int .i64 l.length), (26, .pv (.sl (fz encI l))), (7, .ptr 2 0), (5, .ptr 1 0), (2, .ptr 0 0)], [⟨83, true, k.d⟩, ⟨188, true, [.int .i64 0, .int .i64 0]⟩, ⟨213, true, g.d⟩]⟩) (fun s => l.length - s.i) ⟨0, Nat.zero_le _⟩ (gc [0, 1, 2]) ?_
  rintro ⟨i, hi⟩
  dsimp only
  have hx := fun h : i < l.length => fzI_get l i h
  have F := @hx
  refine rn F ?_
  repeat' (first
    | with_reducible exact ⟨⟩
    | (refine sB F ?_ ?_ <;> intro hZ)
    | (refine vc_S (c3 _) rfl ?_; rintro ⟨t, b3⟩ -; refine rn F ?_)
    | (refine vspine (id := 9) [0, 1, 2] [⟨[], [], 3, [1, 2], []⟩, ⟨[], [], 4, [], []⟩, ⟨[], [], 5, [], []⟩] (by kernel_rfl) (by kernel_rfl) ?_; refine rn F ?_))
  all_goals first
    | exact ⟨rfl, rfl, (_, g.pg, g.sl, true), rfl, trivial⟩
    | exact ⟨rfl, rfl, (0, 0, 0, false), rfl, trivial⟩
    | exact ⟨⟨i + 1, by omega⟩, by dsimp only; omega, (gc [0, 1, 2])⟩
    | skip
theorem rleftK_w (k : Kn) (h : k.sm) : VCalls prog 99 [.agg k.d] [] (RetS ilD fun l => l.length ≤ 65) := by
  refine dk Tryz.func99 ?_
  have h4 := h.2.2.2.1.1
  have c3 := fun n => rending_w k h n
  (unfold Tryz.f99; refine rn trivial ?_)
  refine VLoop.nilOwn 3 3 1 rfl ?_
  refine rn trivial ?_
  refine vloopW (fun s : {s : Nat × List Int // s.1 ≤ k.tx.length ∧ s.2.length ≤ s.1} => ⟨36, 0, [(4, .int .i64 s.1.1), (3, .own 1 1 0 s.1.2.length), (1, .ptr 0 0)], [⟨83, true, k.d⟩, ⟨3, true, cells encI s.1.2⟩]⟩) (fun s => k.tx.length - s.1.1) ⟨(0, []), by simp⟩ (gc [0, 1]) ?_
  rintro ⟨⟨i, out⟩, hi, ho⟩
  dsimp only at hi ho ⊢
  have hg := fun h : i < k.tx.length => fzT_g k.tx i h
  have hb : (out.length + 1) * 8 ≤ 140737488355328 := by omega
  have F := (And.intro @hg @hb)
  refine rn F ?_
  repeat' (first
    | with_reducible exact ⟨⟩
    | (refine sB F ?_ ?_ <;> intro hZ)
    | (refine vc_S (c3 _) rfl ?_; rintro ⟨t, b3⟩ -; refine rn F ?_)
    | (refine vspine (id := 5) [0, 1, 2, 3, 4, 5, 6] [⟨[11], [], 7, [1, 2, 3, 4, 5], [8, 9, 10]⟩, ⟨[11], [11], 12, [10], []⟩, ⟨[], [], 13, [], []⟩] (by kernel_rfl) (by kernel_rfl) ?_; refine rn F ?_))
  all_goals first
    | exact ⟨rfl, rfl, out, rfl, by omega⟩
    | exact ⟨⟨(i + 1, out), by dsimp only; omega, by dsimp only; omega⟩, by dsimp only; omega, (gc [0, 1])⟩
    | exact ⟨⟨(i + 1, out ++ [(k.tx.getD i Tx0).id]), by dsimp only; omega, by simp; omega⟩, by dsimp only; omega, by dsimp only; rw [List.length_append]; exact (gc [0, 4])⟩
    | skip
@[go_sem] def sniD (a : Sv × Nat × Int) : DV := .tup [.agg a.1.d, .int .i64 a.2.1, .int .i64 a.2.2]
def ceQ (s : Sv) (a : Sv × Nat × Int) : Prop := a.1.sm ∧ Ev s.k.lg a.1.k.lg ∧ a.2.1 + s.k.lg.es.length ≤ a.1.k.lg.es.length
structure Rn (s0 : Sv) where
  s : Sv
  n : Nat
  sm : s.sm
  ev : Ev s0.k.lg s.k.lg
  up : n + s0.k.lg.es.length ≤ s.k.lg.es.length
theorem rscell_w (s : Sv) (hs : s.sm) (tx pg sl : Int) : VCalls prog 106 [.agg s.d, .int .i64 tx, .agg [.int .i64 pg, .int .i64 sl]] [] (RetS sniD (ceQ s)) := by
  refine dk Tryz.func106 ?_
  (unfold Tryz.f106; refine rn trivial ?_)
  refine vloopW (fun r : Rn s => ⟨57, 0, [(9, .int .i64 r.n), (6, .ptr 2 0), (5, .ptr 1 0), (3, .ptr 0 0), (1, .int .i64 tx)], [⟨111, true, r.s.d⟩, ⟨188, true, [.int .i64 pg, .int .i64 sl]⟩, ⟨111, true, Zv⟩]⟩) (fun r => 2 * (4096 - r.s.k.lg.es.length) + inP r.s.k.pl.fs pg) ⟨s, 0, hs, Ev.refl _, by omega⟩ (gc [0, 1, 2]) ?_
  rintro ⟨s1, n, sm, ev, up⟩
  have hle := sm.1.1
  dsimp only
  unfold Zv
  have d1 := rcell_w s1.k sm.1 tx pg sl
  have d2 := fun p => rfetch_w s1 sm p
  refine rn F ?_
  repeat' (first
    | with_reducible exact ⟨⟩
    | (refine sB F ?_ ?_ <;> intro hZ)
    | (refine vc_S (d1) rfl ?_; rintro ⟨k1, r1⟩ hq; refine rn F ?_)
    | (refine vc_S (d2 _) rfl ?_; rintro ⟨s2, e2⟩ hq2; refine rn F ?_)
    | (refine vspine (id := 6) [0, 1, 2, 3] [⟨[], [], 4, [1, 2, 3], []⟩, ⟨[], [], 5, [2, 3], []⟩, ⟨[], [], 6, [], []⟩] (by kernel_rfl) (by kernel_rfl) ?_; refine rn F ?_))
  all_goals first
    | exact ⟨rfl, rfl, (s1, n, _), rfl, sm, ev, up⟩
    | skip
  · obtain ⟨g1, g2, g3⟩ := hq.2.2.1 (by first | assumption | (dsimp only; omega))
    have q2 := hq2.2 (by dsimp only; omega)
    dsimp only at g1 g2 g3 q2
    rw [g2] at q2
    have hl := q2.1.len
    refine ⟨⟨s2, n, hq2.1, ev.trans q2.1, by omega⟩, ?_, (gc [0, 1, 2])⟩
    unfold inP
    dsimp only
    rw [if_pos q2.2.2, if_neg (by omega)]
    omega
  · have q := hq.2.2.2 (by dsimp only; omega) (by dsimp only; omega) (by dsimp only; omega)
    have hk := hq.1.1
    have h1 := inP_le k1.pl.fs pg
    dsimp only at q hk
    exact ⟨⟨⟨k1, s1.v⟩, n + 1, ⟨hq.1, sm.2⟩, ev.trans hq.2.1, by dsimp only; omega⟩, by dsimp only; omega, (gc [0, 1, 2])⟩
end
section
attribute [local go_sem] iteLe
theorem rido_w (s : Sv) (hs : s.sm) (tx : Int) (a : Ac) : VCalls prog 90 [.agg s.d, .int .i64 tx, .agg a.d] [] (RetS srD (sdoQ s)) := by
  refine dk Tryz.func90 ?_
  (unfold Tryz.f90; refine rn trivial ?_)
  refine vloopW (fun r : Re s => ⟨58, 0, [(7, .ptr 3 0), (6, .ptr 2 0), (5, .ptr 1 0), (3, .ptr 0 0), (1, .int .i64 tx)], [⟨111, true, r.s.d⟩, ⟨142, true, a.d⟩, ⟨111, true, Zv⟩, ⟨139, true, Zr⟩]⟩) (fun r => 4096 - r.s.k.lg.es.length) ⟨s, hs, Ev.refl _⟩ (gc [0, 1, 2, 3]) ?_
  rintro ⟨s1, sm, ev⟩
  dsimp only
  unfold Zv Zr
  have d1 := rsdo_w s1 sm tx a
  have d2 := fun (t : Sv) (h : t.sm) => rblocker_w t.k h.1 tx
  have d3 := fun (t : Sv) (h : t.sm) => rscell_w t h
  refine rn F ?_
  repeat' (first
    | with_reducible exact ⟨⟩
    | (refine sB F ?_ ?_ <;> intro hZ)
    | (refine vc_S (d1) rfl ?_; rintro ⟨s2, r2⟩ hq; refine rn F ?_)
    | (refine vc_S (d2 s2 hq.1) rfl ?_; rintro ⟨x, p, q, b⟩ -; refine rn F ?_)
    | (refine vc_S (d3 s2 hq.1 _ _ _) rfl ?_; rintro ⟨s3, n, e3⟩ hq3; refine rn F ?_)
    | refine vp F (failed_v _) ?_
    | (refine vspine (id := 4) [0, 1] [⟨[], [], 2, [1], []⟩, ⟨[], [], 3, [], []⟩] (by kernel_rfl) (by kernel_rfl) ?_; refine rn F ?_)
    | (refine vspine (id := 7) [0, 1] [⟨[], [], 2, [1], []⟩, ⟨[], [], 3, [], []⟩] (by kernel_rfl) (by kernel_rfl) ?_; refine rn F ?_)
    | (refine vspine (id := 11) [0, 1] [⟨[], [], 2, [0], []⟩, ⟨[], [], 3, [1], []⟩, ⟨[], [], 4, [], []⟩] (by kernel_rfl) (by kernel_rfl) ?_; refine rn F ?_)
    | (refine vspine (id := 13) [0, 1] [⟨[], [], 2, [1], []⟩, ⟨[], [], 3, [], []⟩] (by kernel_rfl) (by kernel_rfl) ?_; refine rn F ?_))
  all_goals first
    | exact ⟨rfl, rfl, (s2, r2), rfl, hq.1, ev.trans hq.2⟩
    | exact ⟨rfl, rfl, (s3, failR e3), rfl, hq3.1, (ev.trans hq.2).trans hq3.2.1⟩
    | exact ⟨rfl, rfl, (s3, r2), rfl, hq3.1, (ev.trans hq.2).trans hq3.2.1⟩
    | skip
  have h1 := hq.2.len
  have h2 := hq3.2.2
  have h3 := hq3.1.1.1
  dsimp only at h1 h2 h3
  exact ⟨⟨s3, hq3.1, (ev.trans hq.2).trans hq3.2.1⟩, by dsimp only; omega, (gc [0, 1, 2, 3])⟩
@[go_sem] def sbiD (a : Sv × Bool × Int) : DV := .tup [.agg a.1.d, .bool a.2.1, .int .i64 a.2.2]
def wkQ (s : Sv) (a : Sv × Bool × Int) : Prop := a.1.sm ∧ (a.2.2 = 0 → Ev s.k.lg a.1.k.lg)
theorem rwork_w (s : Sv) (hs : s.sm) : VCalls prog 86 [.agg s.d] [] (RetS sbiD (wkQ s)) := by
  refine dk Tryz.func86 ?_
  have c1 := rkvalid_w s.k hs.1
  have c2 := fun n => rfetch_w s hs n
  have c3 := rleftK_w s.k hs.1
  have hg := fun h : 0 < s.k.la.length => fzY_at s.k.la 0 h
  have e0 : ∀ e, e ≠ 0 → wkQ s (Sv0, false, e) := fun e h => ⟨Sv0_sm, fun h2 => absurd h2 h⟩
  (unfold Tryz.f86; refine rn trivial ?_)
  have F := @hg
  refine rn F ?_
  repeat' (first
    | with_reducible exact ⟨⟩
    | (refine sB F ?_ ?_ <;> intro hZ)
    | (refine vc_S (c1) rfl ?_; rintro b -; refine rn F ?_)
    | (refine vc_S (c2 _) rfl ?_; rintro ⟨s2, e2⟩ hq; refine rn F ?_)
    | (refine vc_S (c3) rfl ?_; rintro l hl; refine rn F ?_)
    | (refine vspine (id := 4) [0, 1, 2, 3, 4, 5, 6] [⟨[11], [], 7, [1, 2, 3, 4, 5], [8, 9, 10]⟩, ⟨[11], [11], 12, [10], []⟩, ⟨[], [], 13, [], []⟩] (by kernel_rfl) (by kernel_rfl) ?_; refine rn F ?_))
  all_goals first
    | exact ⟨rfl, rfl, (Sv0, false, 15), rfl, e0 _ (by decide)⟩
    | exact ⟨rfl, rfl, (s, false, 0), rfl, hs, fun _ => Ev.refl _⟩
    | exact ⟨rfl, rfl, (s2, _, e2), rfl, hq.1, fun h => (hq.2 h).1⟩
    | skip
  have hg0 := fun h : 0 < l.length => fzI_get l 0 h
  generalize l.getD 0 0 = tx at *
  refine vloopW (fun r : Re s => ⟨77, 0, [(7, .pv (.sl (fz encI l))), (2, .ptr 1 0), (1, .ptr 0 0)], [⟨111, true, r.s.d⟩, ⟨111, true, Zv⟩]⟩) (fun r => rbM tx r.s) ⟨s, hs, Ev.refl _⟩ (gc [0, 1]) ?_
  rintro ⟨s1, sm, ev⟩
  dsimp only
  unfold Zv
  have d2 := rstep_w s1.k sm.1 tx
  have d3 := fun n => rfetch_w s1 sm n
  have F := @hg0
  refine rn F ?_
  repeat' (first
    | with_reducible exact ⟨⟩
    | (refine sB F ?_ ?_ <;> intro hZ)
    | (refine vc_S (d2) rfl ?_; rintro ⟨k1, r1⟩ hq; refine rn F ?_)
    | (refine vc_S (d3 _) rfl ?_; rintro ⟨s2, e2⟩ hq2; refine rn F ?_)
    | (refine vspine (id := 9) [0, 1, 2, 3, 4] [⟨[9, 10], [], 5, [0, 2, 3], [6, 7, 8]⟩, ⟨[9, 10], [9], 11, [8], []⟩, ⟨[10], [10], 12, [], []⟩] (by kernel_rfl) (by kernel_rfl) ?_; refine rn F ?_)
    | (refine vspine (id := 11) [0, 1, 2] [⟨[], [], 3, [1, 2], []⟩, ⟨[], [], 4, [1, 2], []⟩, ⟨[], [], 5, [], []⟩] (by kernel_rfl) (by kernel_rfl) ?_; refine rn F ?_))
  all_goals first
    | exact ⟨rfl, rfl, (Sv0, false, e2), rfl, e0 _ (by assumption)⟩
    | exact ⟨rfl, rfl, (Sv0, false, r1.er), rfl, e0 _ (hq.2.2.2.2 (by assumption))⟩
    | exact ⟨rfl, rfl, (⟨k1, s1.v⟩, true, 0), rfl, ⟨hq.1, sm.2⟩, fun _ => ev.trans hq.2.1⟩
    | skip
  obtain ⟨v, _, g1, g2, g3⟩ := hq.2.2.1 (by first | assumption | (dsimp only; omega))
  have q2 := hq2.2 (by dsimp only; omega)
  dsimp only at g1 g3 q2
  rw [g1] at g3 q2
  exact ⟨⟨s2, hq2.1, ev.trans q2.1⟩, rbM_page q2.1 q2.2.1 g2 g3 q2.2.2, (gc [0, 1])⟩
end
@[go_sem] def stD (s : List UInt8) : DV := .pv (.str s)
theorem rput_w (s : List UInt8) (hs : s.length ≤ 1000000000) (n : Int) (k : Nat) (h1 : 1 ≤ k) (h8 : k ≤ 8) : VCalls prog 27 [.pv (.str s), .int .i64 n, .int .i64 k] [] (RetS stD fun t => t.length = s.length + k) :=
  (rput_v s hs n k h1 h8).toS (putL s n k) rfl (putL_len s n k)
theorem rput1 (s : List UInt8) (hs : s.length ≤ 1000000000) (n : Int) : VCalls prog 27 [.pv (.str s), .int .i64 n, .int .i64 1] [] (RetS stD fun t => t.length = s.length + 1) := rput_w s hs n 1 (by omega) (by omega)
theorem rput2 (s : List UInt8) (hs : s.length ≤ 1000000000) (n : Int) : VCalls prog 27 [.pv (.str s), .int .i64 n, .int .i64 2] [] (RetS stD fun t => t.length = s.length + 2) := rput_w s hs n 2 (by omega) (by omega)
theorem rput4 (s : List UInt8) (hs : s.length ≤ 1000000000) (n : Int) : VCalls prog 27 [.pv (.str s), .int .i64 n, .int .i64 4] [] (RetS stD fun t => t.length = s.length + 4) := rput_w s hs n 4 (by omega) (by omega)
theorem rput8 (s : List UInt8) (hs : s.length ≤ 1000000000) (n : Int) : VCalls prog 27 [.pv (.str s), .int .i64 n, .int .i64 8] [] (RetS stD fun t => t.length = s.length + 8) := rput_w s hs n 8 (by omega) (by omega)
theorem rnumbers_w (s : List UInt8) (hs : s.length ≤ 800000000) (l : List Int) (hl : l.length ≤ 100000) : VCalls prog 197 [.pv (.str s), .pv (.sl (fz encI l))] [] (RetS stD fun t => t.length ≤ s.length + 800000) := by
  refine dd Tryz.func197 ?_
  (unfold Tryz.f197; refine rn trivial ?_)
  refine vloopW (fun r : {r : Nat × List UInt8 // r.1 ≤ l.length ∧ r.2.length = s.length + 8 * r.1} => ⟨19, 0, [(5, .int .i64 r.1.1), (1, .pv (.sl (fz encI l))), (0, .pv (.str r.1.2))], []⟩) (fun r => l.length - r.1.1) ⟨(0, s), by simp⟩ (gc []) ?_
  rintro ⟨⟨i, t⟩, hi, ht⟩
  dsimp only at hi ht ⊢
  have hg := fun h : i < l.length => fzI_get l i h
  have c1 := rput8 t (by omega)
  have F := @hg
  refine rn F ?_
  repeat' (first
    | with_reducible exact ⟨⟩
    | (refine sB F ?_ ?_ <;> intro hZ)
    | (refine vc_S (c1 _) rfl ?_; rintro u hu; refine rn F ?_))
  all_goals first
    | exact ⟨⟨(i + 1, u), by dsimp only; omega, by dsimp only; omega⟩, by dsimp only; omega, (gc [])⟩
    | exact ⟨rfl, rfl, t, rfl, by omega⟩
    | skip
theorem rtenc_w (l : List Tx) (hl : smN 65 l) : VCalls prog 152 [.pv (.sl (fz encT l))] [] (RetS siD fun a => a.1.length ≤ 200000000) := by
  refine dd Tryz.func152 ?_
  have c1 := rtvalid_v l (hl.smL (by omega))
  have h1 := hl.1
  have c2 := rput2 [] (by simp)
  generalize tblB l = b at *
  (unfold Tryz.f152; refine rn trivial ?_)
  refine rn F ?_
  repeat' (first
    | with_reducible exact ⟨⟩
    | (refine sB F ?_ ?_ <;> intro hZ)
    | refine vp F (c1) ?_
    | (refine vc_S (c2 _) rfl ?_; rintro u hu; refine rn F ?_))
  all_goals first
    | exact ⟨rfl, rfl, ([], 15), rfl, by simp⟩
    | skip
  refine vloopW (fun r : {r : Nat × List UInt8 // r.1 ≤ l.length ∧ r.2.length ≤ 2 + 1600024 * r.1} => ⟨56, 0, [(5, .int .i64 r.1.1), (4, .pv (.str r.1.2)), (0, .pv (.sl (fz encT l)))], []⟩) (fun r => l.length - r.1.1) ⟨(0, u), by simp at hu ⊢; omega⟩ (gc []) ?_
  rintro ⟨⟨i, t⟩, hi, ht⟩
  dsimp only at hi ht ⊢
  have hg := fun h : i < l.length => fzT_g l i h
  have hss : i < l.length → (l.getD i Tx0).l.length ≤ 100000 ∧ (l.getD i Tx0).s.length ≤ 100000 := fun h => by rw [getD_eq _ _ h]; exact hl.2 _ (List.getElem_mem h)
  generalize l.getD i Tx0 = x at *
  by_cases hil : i < l.length
  rotate_left
  · skip
    have F := @hg
    refine rn F ?_
    exact ⟨rfl, rfl, (t, 0), rfl, by dsimp only; omega⟩
  obtain ⟨s1, s2⟩ := hss hil
  have F := @hg
  refine rn F ?_
  repeat' (first
    | with_reducible exact ⟨⟩
    | (refine vc_S (rput4 t (by omega) x.id) rfl ?_; rintro u1 hu1; refine rn F ?_)
    | (refine vc_S (rput1 u1 (by omega) x.st) rfl ?_; rintro u2 hu2; refine rn F ?_)
    | (refine vc_S (rput8 u2 (by omega) x.n) rfl ?_; rintro u3 hu3; refine rn F ?_)
    | (refine vc_S (rput8 u3 (by omega) x.b) rfl ?_; rintro u4 hu4; refine rn F ?_)
    | (refine vc_S (rput2 u4 (by omega) _) rfl ?_; rintro u5 hu5; refine rn F ?_)
    | (refine vc_S (rnumbers_w u5 (by omega) x.l s1) rfl ?_; rintro u6 hu6; refine rn F ?_)
    | (refine vc_S (rput1 u6 (by omega) x.s.length) rfl ?_; rintro u7 hu7; refine rn F ?_)
    | (refine vc_S (rnumbers_w u7 (by omega) x.s s2) rfl ?_; rintro u8 hu8; refine rn F ?_)
    | (refine vspine (id := 12) [0, 1, 2, 3, 5, 6] [⟨[], [], 4, [1, 2, 5, 6], []⟩, ⟨[], [], 7, [0, 1, 2, 3, 5], []⟩, ⟨[], [], 8, [], []⟩] (by kernel_rfl) (by kernel_rfl) ?_; refine rn F ?_)
    | (refine vspine (id := 13) [0, 1, 2, 3, 5, 6] [⟨[], [], 4, [1, 2, 5, 6], []⟩, ⟨[], [], 7, [0, 1, 2, 3, 5], []⟩, ⟨[], [], 8, [], []⟩] (by kernel_rfl) (by kernel_rfl) ?_; refine rn F ?_))
  all_goals first
    | exact ⟨⟨(i + 1, u8), hil, Nat.le_trans (show u8.length ≤ (2 + 1600024 * i) + 1600024 by omega) (by rw [Nat.mul_succ]; exact Nat.le_of_eq (Nat.add_assoc _ _ _))⟩, by dsimp only; omega, (gc [])⟩
    | skip
theorem rixenc_w (l : List Rw) (hl : l.length ≤ 64) : VCalls prog 153 [.agg [.pv (.sl (fz encR l))]] [] (RetS siD fun a => a.1.length ≤ 2000) := by
  refine dd Tryz.func153 ?_
  have c1 := rixvalid_v l (by omega)
  have c2 := rput2 [] (by simp)
  generalize ixB l = b at *
  (unfold Tryz.f153; refine rn trivial ?_)
  refine rn F ?_
  repeat' (first
    | with_reducible exact ⟨⟩
    | (refine sB F ?_ ?_ <;> intro hZ)
    | refine vp F (c1) ?_
    | (refine vc_S (c2 _) rfl ?_; rintro u hu; refine rn F ?_))
  all_goals first
    | exact ⟨rfl, rfl, ([], 28), rfl, by simp⟩
    | skip
  refine vloopW (fun r : {r : Nat × List UInt8 // r.1 ≤ l.length ∧ r.2.length ≤ 2 + 24 * r.1} => ⟨45, 0, [(5, .int .i64 r.1.1), (4, .pv (.str r.1.2)), (1, .ptr 0 0)], [⟨80, true, [.pv (.sl (fz encR l))]⟩]⟩) (fun r => l.length - r.1.1) ⟨(0, u), by simp at hu ⊢; omega⟩ (gc [0]) ?_
  rintro ⟨⟨i, t⟩, hi, ht⟩
  dsimp only at hi ht ⊢
  have hg := fun h : i < l.length => fzR_at l i h
  generalize l.getD i Rw0 = x at *
  have F := @hg
  refine rn F ?_
  repeat' (first
    | with_reducible exact ⟨⟩
    | (refine sB F ?_ ?_ <;> intro hZ)
    | (refine vc_S (rput8 t (by omega) x.lsn) rfl ?_; rintro u1 hu1; refine rn F ?_)
    | (refine vc_S (rput8 u1 (by omega) x.im) rfl ?_; rintro u2 hu2; refine rn F ?_)
    | (refine vc_S (rput8 u2 (by omega) x.at_) rfl ?_; rintro u3 hu3; refine rn F ?_))
  all_goals first
    | exact ⟨⟨(i + 1, u3), by dsimp only; omega, by dsimp only; omega⟩, by dsimp only; omega, (gc [0])⟩
    | exact ⟨rfl, rfl, (t, 0), rfl, by dsimp only; omega⟩
    | skip
section
attribute [local go_sem] frzHeap
structure Cp where
  pg : Int
  nx : Int
  tx : List Tx
  dl : List Dt
  ix : List Rw
@[go_sem] def Cp.d (c : Cp) : List DV := [.int .i64 c.pg, .int .i64 c.nx, .pv (.sl (fz encT c.tx)), .pv (.sl (fz encY c.dl)), .pv (.sl (fz encR c.ix))]
def Cp0 : Cp := ⟨0, 0, [], [], []⟩
def Cp.sm (c : Cp) : Prop := smN 65 c.tx ∧ c.dl.length ≤ 10000 ∧ c.ix.length ≤ 64
theorem Cp0_sm : Cp0.sm := ⟨smN_nil _, by decide, by decide⟩
@[go_sem] def cpD2 (a : Cp × Int) : DV := .tup [.agg a.1.d, .int .i64 a.2]
def Zc : List DV := [.int .i64 0, .int .i64 0, .pv (.slc []), .pv (.slc []), .pv (.slc [])]
theorem rcpof_w (k : Kn) (h : k.sm) : VCalls prog 114 [.agg k.d] [] (RetS cpD2 fun a => a.1.sm) := by
  refine dk Tryz.func114 ?_
  have c1 := rkvalid_w k h
  obtain ⟨h1, h2, h3, h4, h5, h6⟩ := h
  have c2 := fun n => rlacks_w k (by omega) n
  have c3 := rpdirty_v k.pl (by omega)
  (unfold Tryz.f114; refine rn trivial ?_)
  refine vc_S c1 rfl ?_
  rintro b hb
  cases b
  · skip
    refine rn F ?_
    exact ⟨rfl, rfl, (Cp0, 15), rfl, Cp0_sm⟩
  have hv := (hb rfl).1
  refine rn F ?_
  refine VLoop.nilOwnC 2 3 180 3 rfl rfl ?_
  refine rn trivial ?_
  refine vloopW (fun s : {s : Nat × List Dt // s.1 ≤ 64 ∧ s.2.length ≤ 65 * s.1} => ⟨62, 0, [(5, .int .i64 s.1.1), (4, .ptr 2 0), (2, .ptr 1 0), (1, .ptr 0 0)], [⟨83, true, k.d⟩, ⟨201, true, Zc⟩, ⟨201, true, [.int .i64 k.pg, .int .i64 k.nx, .pv (.sl (fz encT k.tx)), .own 3 3 0 s.1.2.length, .pv (.sl (fz encR k.ix))]⟩, ⟨180, true, cells encY s.1.2⟩]⟩) (fun s => 64 - s.1.1) ⟨(0, []), by simp⟩ (gc [0, 1, 2, 3]) ?_
  rintro ⟨⟨i, out⟩, hi, ho⟩
  dsimp only at hi ho ⊢
  unfold Zc
  have hb1 : (out.length + 1) * 24 ≤ 140737488355328 := by omega
  have F := @hb1
  refine rn F ?_
  repeat' (first
    | with_reducible exact ⟨⟩
    | (refine sB F ?_ ?_ <;> intro hZ)
    | (refine vc_S (c2 _) rfl ?_; rintro ⟨d, b2⟩ -; refine rn F ?_)
    | (refine vc_S (c3) rfl ?_; rintro l hl; refine rn F ?_))
  rotate_left 2
  · exact ⟨rfl, rfl, (⟨k.pg, k.nx, k.tx, out, k.ix⟩, 0), rfl, h4, by dsimp only; omega, h5⟩
  all_goals
    first
      | refine vloopW (fun s : {s : Nat × List Dt // s.1 ≤ l.length ∧ s.2.length ≤ 65 * i + 1 + s.1} => ⟨62, 0, [(46, .int .i64 s.1.1), (45, .int .i64 l.length), (44, .pv (.sl (fz encY l))), (5, .int .i64 i), (4, .ptr 2 0), (2, .ptr 1 0), (1, .ptr 0 0)], [⟨83, true, k.d⟩, ⟨201, true, Zc⟩, ⟨201, true, [.int .i64 k.pg, .int .i64 k.nx, .pv (.sl (fz encT k.tx)), .own 3 3 0 s.1.2.length, .pv (.sl (fz encR k.ix))]⟩, ⟨180, true, cells encY s.1.2⟩]⟩) (fun s => l.length - s.1.1) ⟨(0, out ++ [⟨d.pg, d.rc, d.last⟩]), by dsimp only; rw [List.length_append]; exact ⟨Nat.zero_le _, by simp; omega⟩⟩ (by dsimp only; rw [List.length_append]; exact (gc [0, 1, 2, 6])) ?_
      | refine vloopW (fun s : {s : Nat × List Dt // s.1 ≤ l.length ∧ s.2.length ≤ 65 * i + 1 + s.1} => ⟨62, 0, [(46, .int .i64 s.1.1), (45, .int .i64 l.length), (44, .pv (.sl (fz encY l))), (5, .int .i64 i), (4, .ptr 2 0), (2, .ptr 1 0), (1, .ptr 0 0)], [⟨83, true, k.d⟩, ⟨201, true, Zc⟩, ⟨201, true, [.int .i64 k.pg, .int .i64 k.nx, .pv (.sl (fz encT k.tx)), .own 3 3 0 s.1.2.length, .pv (.sl (fz encR k.ix))]⟩, ⟨180, true, cells encY s.1.2⟩]⟩) (fun s => l.length - s.1.1) ⟨(0, out), by dsimp only; exact ⟨Nat.zero_le _, by omega⟩⟩ (gc [0, 1, 2, 3]) ?_
    rintro ⟨⟨j, o2⟩, hj, ho2⟩
    dsimp only at hj ho2 ⊢
    unfold Zc
    have hy := fun h : j < l.length => fzY_at l j h
    have hb2 : (o2.length + 1) * 24 ≤ 140737488355328 := by omega
    have F := (And.intro @hy @hb2)
    refine rn F ?_
    repeat' (first
      | with_reducible exact ⟨⟩
      | (refine sB F ?_ ?_ <;> intro hZ))
  all_goals first
    | exact ⟨⟨(j + 1, o2), by dsimp only; omega, by dsimp only; omega⟩, by dsimp only; omega, (gc [0, 1, 2, 3])⟩
    | exact ⟨⟨(j + 1, o2 ++ [⟨(l.getD j Dt0).pg, (l.getD j Dt0).rc, (l.getD j Dt0).last⟩]), by dsimp only; omega, by simp; omega⟩, by dsimp only; omega, by dsimp only; rw [List.length_append]; exact (gc [0, 1, 2, 6])⟩
    | exact ⟨⟨(i + 1, o2), by dsimp only; omega, by dsimp only; omega⟩, by dsimp only; omega, (gc [0, 1, 2, 3])⟩
    | skip
  all_goals skip
end
theorem rcpvalid_w (c : Cp) (h : c.sm) : VCalls prog 151 [.agg c.d] [] (RetS boD fun _ => True) := by
  refine dd Tryz.func151 ?_
  obtain ⟨h1, h2, h3⟩ := h
  have h10 := h1.1
  have c1 := rtvalid_v c.tx (h1.smL (by omega))
  have c2 := fun n => rvdirty_w c.dl (by omega) n
  have c3 := rixvalid_v c.ix (by omega)
  generalize tblB c.tx = b1 at *
  generalize ixB c.ix = b2 at *
  (unfold Tryz.f151; refine rn trivial ?_)
  refine rn F ?_
  repeat' (first
    | with_reducible exact ⟨⟩
    | (refine sG F ?_ ?_ <;> intro hZ)
    | (refine sB F ?_ ?_ <;> intro hZ)
    | refine vp F (c1) ?_
    | (refine vc_S (c2 _) rfl ?_; rintro b3 -; refine rn F ?_)
    | refine vp F (c3) ?_)
  all_goals first
    | exact ⟨rfl, rfl, false, rfl, trivial⟩
    | skip
  all_goals
    refine vloopW (fun s : To c.tx.length => ⟨67, 0, [(3, .int .i64 s.i), (1, .ptr 0 0)], [⟨201, true, c.d⟩]⟩) (fun s => c.tx.length - s.i) ⟨0, Nat.zero_le _⟩ (gc [0]) ?_
    rintro ⟨i, hi⟩
    dsimp only
    have hg := fun h : i < c.tx.length => fzT_g c.tx i h
    have F := @hg
    refine rn F ?_
    repeat' (first
      | with_reducible exact ⟨⟩
      | (refine sB F ?_ ?_ <;> intro hZ)
      | (refine vspine (id := 6) [0, 1, 2, 3, 4, 5, 6, 7, 8] [] (by kernel_rfl) (by kernel_rfl) ?_; refine rn F ?_))
  all_goals first
    | exact ⟨rfl, rfl, false, rfl, trivial⟩
    | exact ⟨rfl, rfl, true, rfl, trivial⟩
    | exact ⟨⟨i + 1, by omega⟩, by dsimp only; omega, (gc [0])⟩
    | skip
theorem rcpenc_w (c : Cp) (h : c.sm) : VCalls prog 115 [.agg c.d] [] (RetS siD fun a => a.1.length ≤ 300000000) := by
  refine dd Tryz.func115 ?_
  have c1 := rcpvalid_w c h
  obtain ⟨h1, h2, h3⟩ := h
  have c2 := rtenc_w c.tx h1
  have c3 := rixenc_w c.ix h3
  have c4 := rput2 [] (by simp)
  (unfold Tryz.f115; refine rn trivial ?_)
  refine rn F ?_
  repeat' (first
    | with_reducible exact ⟨⟩
    | (refine sB F ?_ ?_ <;> intro hZ)
    | (refine vc_S (c1) rfl ?_; rintro b -; refine rn F ?_)
    | (refine vc_S (c2) rfl ?_; rintro ⟨t, e⟩ ht; refine rn F ?_)
    | (refine vc_S (c4 _) rfl ?_; rintro u1 hu1; refine rn F ?_)
    | (refine vc_S (rput4 u1 (by simp at hu1; omega) c.nx) rfl ?_; rintro u2 hu2; refine rn F ?_)
    | (refine vc_S (rput4 u2 (by simp at hu1; omega) t.length) rfl ?_; rintro u3 hu3; refine rn F ?_))
  all_goals first
    | exact ⟨rfl, rfl, ([], 24), rfl, by simp⟩
    | skip
  dsimp only at ht
  simp only [List.length_nil] at hu1
  have hadd := str_add (a := u3) (b := t) (by omega)
  have hw : (u3 ++ t).length = u3.length + t.length := List.length_append
  have F := @hadd
  refine rn F ?_
  repeat' (first
    | with_reducible exact ⟨⟩
    | (refine vc_S (rput1 (u3 ++ t) (by rw [hw]; omega) c.dl.length) rfl ?_; rintro u4 hu4; refine rn F ?_))
  rw [hw] at hu4
  refine vloopW (fun r : {r : Nat × List UInt8 // r.1 ≤ c.dl.length ∧ r.2.length = u4.length + 17 * r.1} => ⟨77, 0, [(7, .int .i64 r.1.1), (6, .pv (.str r.1.2)), (1, .ptr 0 0)], [⟨201, true, c.d⟩]⟩) (fun r => c.dl.length - r.1.1) ⟨(0, u4), by simp⟩ (gc [0]) ?_
  rintro ⟨⟨i, v⟩, hi, hv⟩
  dsimp only at hi hv ⊢
  have hy := fun h : i < c.dl.length => fzY_at c.dl i h
  generalize c.dl.getD i Dt0 = x at *
  have F := @hy
  refine rn F ?_
  repeat' (first
    | with_reducible exact ⟨⟩
    | (refine sB F ?_ ?_ <;> intro hZ)
    | (refine vc_S (rput1 v (by omega) x.pg) rfl ?_; rintro v1 hv1; refine rn F ?_)
    | (refine vc_S (rput8 v1 (by omega) x.rc) rfl ?_; rintro v2 hv2; refine rn F ?_)
    | (refine vc_S (rput8 v2 (by omega) x.last) rfl ?_; rintro v3 hv3; refine rn F ?_)
    | (refine vc_S (c3) rfl ?_; rintro ⟨w, e2⟩ hw2; refine rn F ?_))
  all_goals first
    | exact ⟨⟨(i + 1, v3), by dsimp only; omega, by dsimp only; omega⟩, by dsimp only; omega, (gc [0])⟩
    | skip
  dsimp only at hw2
  have hadd2 := str_add (a := v) (b := w) (by omega)
  have F := @hadd2
  refine rn F ?_
  exact ⟨rfl, rfl, (v ++ w, 0), rfl, by dsimp only; rw [List.length_append]; omega⟩
theorem forceS_ev {x : Lg} {n : Int} (h : (forceS x n).2 = 0) : Ev x (forceS x n).1 := by
  unfold forceS at h ⊢
  split at h
  · simp at h
  rename_i q1
  split at h
  · simp at h
  rename_i q2
  rw [if_neg q1, if_neg q2]
  refine ⟨rfl, List.prefix_rfl, fun hv => ?_⟩
  have hd := lgB_hd hv
  unfold lgB at hv ⊢
  simp only [Bool.and_eq_true, decide_eq_true_eq] at hv ⊢
  refine ⟨?_, hv.2⟩
  simp only [Lg.hd, Lg.end_] at hd q2 ⊢
  split <;> omega
theorem forceS_len (x : Lg) (n : Int) (h : x.es.length ≤ 4096) : (forceS x n).1.es.length ≤ 4096 := by
  unfold forceS
  repeat' split
  all_goals first | exact Nat.zero_le _ | exact h
theorem addQ_force {k k1 : Kn} {e : E} {n1 e1 : Int} (hq : addQ k e (k1, n1, e1)) (h : e1 = 0) : (forceS k1.lg n1).2 = 0 := by
  obtain ⟨e', ⟨_, _, _, hl, _⟩, hk, hn, hv⟩ := hq.2 h
  dsimp only at hk hn hv
  subst hk
  unfold forceS
  rw [if_neg (by rw [hv]; decide), if_neg]
  simp only [Kn.add, Lg.end_, List.length_append, List.length_cons, List.length_nil] at *
  omega
def takeQ (k : Kn) (a : Kn × Int × Int) : Prop := a.1.sm ∧ (a.2.2 = 0 → Ev k.lg a.1.lg)
theorem rtake_w (k : Kn) (h : k.sm) : VCalls prog 94 [.agg k.d] [] (RetS kie (takeQ k)) := by
  refine dk Tryz.func94 ?_
  have c1 := rcpof_w k h
  have c2 := fun c hc => rcpenc_w c hc
  have c3 := fun t => rkadd_w k h ⟨0, 6, 0, 0, 0, 0, Ch0, t⟩
  have e0 : ∀ n e, e ≠ 0 → takeQ k (Kn0, n, e) := fun n e h => ⟨Kn0_sm, fun h2 => absurd h2 h⟩
  (unfold Tryz.f94; refine rn trivial ?_)
  refine rn F ?_
  repeat' (first
    | with_reducible exact ⟨⟩
    | (refine sB F ?_ ?_ <;> intro hZ)
    | (refine vc_S (c1) rfl ?_; rintro ⟨c, e⟩ hc; refine rn F ?_)
    | (refine vc_S (c2 c hc) rfl ?_; rintro ⟨t, e2⟩ ht; refine rn F ?_)
    | (refine vc_S (c3 _) rfl ?_; rintro ⟨k1, n1, e1⟩ hq; refine rn F ?_)
    | refine vp F (rforce_v k1.lg (Nat.le_trans hq.1.1 (by decide)) n1) ?_)
  all_goals first
    | exact ⟨rfl, rfl, (Kn0, 0, 21), rfl, e0 _ _ (by decide)⟩
    | exact ⟨rfl, rfl, (Kn0, 0, e), rfl, e0 _ _ (by assumption)⟩
    | exact ⟨rfl, rfl, (Kn0, 0, e1), rfl, e0 _ _ (by assumption)⟩
    | skip
  have he1 : e1 = 0 := by omega
  obtain ⟨q1, q2, q3, q4, q5, q6, q7⟩ := addQ_ev hq he1
  obtain ⟨r1, r2, r3, r4, r5, r6⟩ := hq.1
  have hf := forceS_ev (addQ_force hq he1)
  exact ⟨rfl, rfl, (⟨k1.pg, k1.nx, (forceS k1.lg n1).1, k1.pl, k1.lk, k1.tx, k1.ix, k1.la⟩, n1, 0), rfl, ⟨forceS_len _ _ r1, r2, r3, r4, r5, r6⟩, fun _ => q1.trans hf⟩
theorem rscheck_w (s : Sv) (hs : s.sm) : VCalls prog 83 [.agg s.d] [] (RetS siiD fun a => a.1.sm ∧ (a.2.2 = 0 → Ev s.k.lg a.1.k.lg)) := by
  refine dk Tryz.func83 ?_
  have c1 := rtake_w s.k hs.1
  (unfold Tryz.f83; refine rn trivial ?_)
  refine rn F ?_
  repeat' (first
    | with_reducible exact ⟨⟩
    | (refine sB F ?_ ?_ <;> intro hZ)
    | (refine vc_S (c1) rfl ?_; rintro ⟨k1, n1, e1⟩ hq; refine rn F ?_))
  all_goals first
    | exact ⟨rfl, rfl, (Sv0, 0, e1), rfl, Sv0_sm, fun h => absurd h (by assumption)⟩
    | exact ⟨rfl, rfl, (⟨k1, s.v⟩, n1, 0), rfl, ⟨hq.1, hs.2⟩, fun _ => hq.2 (by dsimp only; omega)⟩
    | skip
@[go_sem] def niZ (a : Int × Int) : DV := .tup [.int .i64 a.1, .int .i64 a.2]
theorem rgetn_w (s : List UInt8) (hs : s.length ≤ 100000000) (a : Int) (k : Nat) (h1 : 1 ≤ k) (h8 : k ≤ 8) (h0 : 0 ≤ a) : VCalls prog 205 [.pv (.str s), .int .i64 a, .int .i64 k] [] (RetS niZ fun r => (k ≤ 4 → 0 ≤ r.1 ∧ r.1 < 4294967296) ∧ (k ≤ 2 → r.1 < 65536) ∧ (k ≤ 1 → r.1 < 256) ∧ (r.2 = 0 → a + k ≤ s.length)) := by
  by_cases h : a + k ≤ s.length
  · obtain ⟨n, rfl⟩ : ∃ n : Nat, a = n := ⟨a.toNat, by omega⟩
    refine (rget_v s (by omega) n k ⟨h1, h8⟩ (by omega)).toS (IntKind.i64.wrap (accX s n k), 0) rfl ⟨fun hk => ?_, fun hk => ?_, fun hk => ?_, fun _ => h⟩
    all_goals
      have e := accX_leN s n k (by omega)
      have h2 := leN_lt s n k
      dsimp only
      rw [e, IntKind.wrap_i64]
    · have : (2 : Nat) ^ (8 * k) ≤ 2 ^ 32 := Nat.pow_le_pow_right (by omega) (by omega)
      omega
    · have : (2 : Nat) ^ (8 * k) ≤ 2 ^ 16 := Nat.pow_le_pow_right (by omega) (by omega)
      omega
    · have : (2 : Nat) ^ (8 * k) ≤ 2 ^ 8 := Nat.pow_le_pow_right (by omega) (by omega)
      omega
  · refine (rget_short s a k (by omega) h0 h).toS (0, 5) rfl ⟨fun _ => by decide, fun _ => by decide, fun _ => by decide, fun h => by simp at h⟩
structure RwS (n : Nat) where
  i : Nat
  l : List Rw
  hl : l.length = i
  hi : i ≤ n
@[go_sem] def ixD (a : List Rw × Int) : DV := .tup [.agg [.pv (.sl (fz encR a.1))], .int .i64 a.2]
theorem rixdec_w (s : List UInt8) (hs : s.length ≤ 100000000) : VCalls prog 247 [.pv (.str s)] [] (RetS ixD fun a => a.1.length ≤ 64) := by
  refine dk Tryz.func247 ?_
  have c1 := rgetn_w s hs 0 2 (by omega) (by omega) (by omega)
  have c8 := fun a h => rgetn_w s hs a 8 (by omega) (by omega) h
  (unfold Tryz.f247; refine rn trivial ?_)
  refine rn F ?_
  repeat' (first
    | with_reducible exact ⟨⟩
    | (refine sG F ?_ ?_ <;> intro hZ)
    | (refine sB F ?_ ?_ <;> intro hZ)
    | (refine vc_S (c1) rfl ?_; rintro ⟨n, e⟩ hn; refine rn F ?_))
  all_goals first
    | exact ⟨rfl, rfl, ([], _), rfl, Nat.zero_le _⟩
    | skip
  dsimp only at hn
  obtain ⟨n, rfl⟩ : ∃ m : Nat, n = m := ⟨n.toNat, by omega⟩
  have hn2 : n < 65536 := by omega
  clear hn
  refine VLoop.nilOwnC 1 0 269 3 rfl rfl ?_
  refine rn trivial ?_
  refine vloopW (fun r : RwS n => ⟨77, 0, [(7, .int .i64 r.i), (6, .ptr 1 0), (4, .int .i64 n), (2, .ptr 0 0), (0, .pv (.str s))], [⟨80, true, [.pv (.slc [])]⟩, ⟨80, true, [.own 2 3 0 r.i]⟩, ⟨269, true, cells encR r.l⟩]⟩) (fun r => n - r.i) ⟨0, [], rfl, Nat.zero_le _⟩ (gc [0, 1, 2]) ?_
  rintro ⟨i, l, hl, hi⟩
  dsimp only at hi ⊢
  subst hl
  have hb : (l.length + 1) * 24 ≤ 140737488355328 := by omega
  have c9 := rixvalid_v l (by omega)
  have hix := fun h : ixB l = true => ixB_len h
  generalize ixB l = ok at *
  have F := @hb
  refine rn F ?_
  repeat' (first
    | with_reducible exact ⟨⟩
    | (refine sB F ?_ ?_ <;> intro hZ)
    | (refine vc_S (c8 (2 + 24 * (l.length : Int)) (by omega)) rfl ?_; rintro ⟨a1, e1⟩ h1; refine rn F ?_)
    | (refine vc_S (c8 (10 + 24 * (l.length : Int)) (by omega)) rfl ?_; rintro ⟨a2, e2⟩ h2; refine rn F ?_)
    | (refine vc_S (c8 (18 + 24 * (l.length : Int)) (by omega)) rfl ?_; rintro ⟨a3, e3⟩ h3; refine rn F ?_))
  · have hl2 : (l ++ [(⟨a1, a2, a3⟩ : Rw)]).length = l.length + 1 := by simp
    have hil : l.length < n := by omega
    clear h1 h2 h3
    refine ⟨⟨l.length + 1, l ++ [⟨a1, a2, a3⟩], hl2, hil⟩, by dsimp only; omega, ?_⟩
    exact (gc [0, 1, 5])
  have hix := fun h : ixB l = true => ixB_len h
  have c9 := rixvalid_v l (by omega)
  generalize ixB l = ok at *
  refine vl hb c9 ?_
  cases ok
  · skip
    have F := @hb
    refine rn F ?_
    exact ⟨rfl, rfl, ([], _), rfl, Nat.zero_le _⟩
  · skip
    have F := @hb
    refine rn F ?_
    exact ⟨rfl, rfl, (l, 0), rfl, (hix rfl).2⟩
structure DtS (n m : Nat) where
  i : Nat
  a : Int
  l : List Dt
  hl : l.length = i
  hi : i ≤ m
  ha : a = 11 + n + 17 * i
theorem rcpdec_w (s : List UInt8) (hs : s.length ≤ 3000000) : VCalls prog 243 [.pv (.str s)] [] (RetS cpD2 fun a => smN 64 a.1.tx ∧ a.1.dl.length ≤ 256 ∧ a.1.ix.length ≤ 64) := by
  refine dk Tryz.func243 ?_
  have c1 := rgetn_w s (by omega) 0 2 (by omega) (by omega) (by omega)
  have c2 := rgetn_w s (by omega) 2 4 (by omega) (by omega) (by omega)
  have c3 := rgetn_w s (by omega) 6 4 (by omega) (by omega) (by omega)
  have c4 := fun a h => rgetn_w s (by omega) a 1 (by omega) (by omega) h
  have c8 := fun a h => rgetn_w s (by omega) a 8 (by omega) (by omega) h
  (unfold Tryz.f243; refine rn trivial ?_)
  refine vc_S c1 rfl ?_
  rintro ⟨pg, e1⟩ h1
  refine rn trivial ?_
  refine vc_S c2 rfl ?_
  rintro ⟨nx, e2⟩ h2
  refine rn trivial ?_
  refine vc_S c3 rfl ?_
  rintro ⟨n, e3⟩ h3
  dsimp only at h3
  obtain ⟨n, rfl⟩ : ∃ m : Nat, n = m := ⟨n.toNat, by omega⟩
  have hn : n < 4294967296 := by omega
  clear h3
  refine rn F ?_
  repeat' (first
    | with_reducible exact ⟨⟩
    | (refine sG F ?_ ?_ <;> intro hZ)
    | (refine sB F ?_ ?_ <;> intro hZ))
  all_goals first | exact ⟨rfl, rfl, (Cp0, 5), rfl, smN_nil _, Nat.zero_le _, Nat.zero_le _⟩ | skip
  have hns : n + 10 ≤ s.length := by omega
  refine vc_S (c4 (10 + (n : Int)) (by omega)) rfl ?_
  rintro ⟨m, e4⟩ h4
  dsimp only at h4
  obtain ⟨m, rfl⟩ : ∃ k : Nat, m = k := ⟨m.toNat, by omega⟩
  have hm : m < 256 := by omega
  clear h4
  refine rn F ?_
  repeat' (first
    | with_reducible exact ⟨⟩
    | (refine sG F ?_ ?_ <;> intro hZ)
    | (refine sB F ?_ ?_ <;> intro hZ))
  all_goals first | exact ⟨rfl, rfl, (Cp0, 5), rfl, smN_nil _, Nat.zero_le _, Nat.zero_le _⟩ | skip
  have hns2 : 11 + n + 17 * m ≤ s.length := by omega
  refine VLoop.nilOwnC 1 3 180 3 rfl rfl ?_
  refine rn trivial ?_
  generalize htx : (s.take (10 + (n : Int)).toNat).drop 10 = txs
  have htl : txs.length ≤ 3000000 := by rw [← htx, List.length_drop, List.length_take]; omega
  refine vloopW (fun r : DtS n m => ⟨130, 0, [(11, .int .i64 r.i), (10, .int .i64 m), (9, .int .i64 r.a), (8, .pv (.str txs)), (4, .ptr 1 0), (2, .ptr 0 0), (0, .pv (.str s))], [⟨201, true, [.int .i64 0, .int .i64 0, .pv (.slc []), .pv (.slc []), .pv (.slc [])]⟩, ⟨201, true, [.int .i64 pg, .int .i64 nx, .pv (.slc []), .own 2 3 0 r.i, .pv (.slc [])]⟩, ⟨180, true, cells encY r.l⟩]⟩) (fun r => m - r.i) ⟨0, 10 + (n : Int) + 1, [], rfl, Nat.zero_le _, by omega⟩ (gc [0, 1, 2]) ?_
  rintro ⟨i, a, l, hl, hi, ha⟩
  dsimp only
  subst hl
  have hb : (l.length + 1) * 24 ≤ 140737488355328 := by omega
  by_cases hil : l.length < m
  · skip
    have F := @hb
    refine rn F ?_
    repeat' (first
      | with_reducible exact ⟨⟩
      | (refine vc_S (c4 a (by omega)) rfl ?_; rintro ⟨a1, e1⟩ h1; refine rn F ?_)
      | (refine vc_S (c8 (a + 1) (by omega)) rfl ?_; rintro ⟨a2, e2⟩ h2; refine rn F ?_)
      | (refine vc_S (c8 (a + 9) (by omega)) rfl ?_; rintro ⟨a3, e3⟩ h3; refine rn F ?_))
    have hl2 : (l ++ [(⟨a1, a2, a3⟩ : Dt)]).length = l.length + 1 := by simp
    clear h1 h2 h3
    refine ⟨⟨l.length + 1, a + 17, l ++ [⟨a1, a2, a3⟩], hl2, hil, by rw [ha]; omega⟩, by dsimp only; omega, ?_⟩
    exact (gc [0, 1, 5])
  obtain rfl : m = l.length := by omega
  have c9 := rtdecode_v txs htl
  have hq : smN 64 (decT txs).1 := by
    unfold decT
    split
    · exact smN_nil _
    split
    · exact smN_nil _
    split
    · exact smN_nil _
    · rename_i h; exact tblB_smN (by simpa using h)
  generalize decT txs = D at *
  obtain ⟨tx, et⟩ := D
  dsimp only at hq
  have ha2 : 0 ≤ a ∧ a ≤ s.length := by omega
  obtain ⟨a, rfl⟩ : ∃ k : Nat, a = k := ⟨a.toNat, by omega⟩
  have hsl : (s.drop a).length ≤ 100000000 := by rw [List.length_drop]; omega
  have hal : a ≤ s.length := by omega
  have F := (And.intro @hb @hal)
  refine rn F ?_
  repeat' (first
    | with_reducible exact ⟨⟩
    | (refine sB F ?_ ?_ <;> intro hZ)
    | refine vp F (c9) ?_
    | (refine vc_S (rixdec_w _ hsl) rfl ?_; rintro ⟨ix, ei⟩ hi2; refine rn F ?_))
  all_goals first | exact ⟨rfl, rfl, (Cp0, _), rfl, smN_nil _, Nat.zero_le _, Nat.zero_le _⟩ | skip
  dsimp only at hi2
  have c10 := rcpvalid_w ⟨pg, nx, tx, l, ix⟩ ⟨hq.mono (by decide), by dsimp only; omega, hi2⟩
  have F := @hb
  refine rn F ?_
  repeat' (first
    | with_reducible exact ⟨⟩
    | (refine sB F ?_ ?_ <;> intro hZ)
    | (refine vc_lendS (c10) ?_ (fun _ => rfl) ?_; (focus (refine rd F)); rintro b -; refine rn F ?_))
  all_goals first
    | exact ⟨rfl, rfl, (Cp0, _), rfl, smN_nil _, Nat.zero_le _, Nat.zero_le _⟩
    | exact ⟨rfl, rfl, (⟨pg, nx, tx, l, ix⟩, 0), rfl, hq, by dsimp only; omega, hi2⟩
    | skip
@[go_sem] def ltD (a : Cp × Int × Bool) : DV := .tup [.agg a.1.d, .int .i64 a.2.1, .bool a.2.2]
theorem lgB_ok {x : Lg} (h : lgB x = true) : ∀ i, i < x.es.length → (x.es.getD i E0).blob.length ≤ 8192 := by
  unfold lgB at h
  simp only [Bool.and_eq_true, List.all_eq_true, List.mem_range] at h
  intro i hi
  have := h.2 i hi
  simp only [lgC, Bool.and_eq_true] at this
  exact (okB_lens this.2).2.2
def cpQ (c : Cp) : Prop := smN 64 c.tx ∧ c.dl.length ≤ 256 ∧ c.ix.length ≤ 64
theorem Cp0_q : cpQ Cp0 := ⟨smN_nil _, Nat.zero_le _, Nat.zero_le _⟩
theorem rlatest_w (x : Lg) (hx : x.es.length ≤ 1000000) : VCalls prog 238 [.agg x.c] [] (RetS ltD fun a => cpQ a.1) := by
  refine dk Tryz.func238 ?_
  have c1 := rlvalid_v x (by omega)
  (unfold Tryz.f238; refine rn trivial ?_)
  cases hv : lgB x
  · rw [hv] at c1
    refine rn F ?_
    repeat' (first
      | with_reducible exact ⟨⟩
      | refine vp F (c1) ?_)
    exact ⟨rfl, rfl, (Cp0, 0, false), rfl, Cp0_q⟩
  rw [hv] at c1
  have hs := lgB_ok hv
  refine rn F ?_
  repeat' (first
    | with_reducible exact ⟨⟩
    | refine vp F (c1) ?_)
  refine vloopW (fun r : {r : To x.es.length × Int // r.2 = (r.1.i : Int) - 1} => ⟨47, 0, [(5, .int .i64 r.1.2), (2, .ptr 1 0), (1, .ptr 0 0)], [⟨28, true, x.c⟩, ⟨201, true, Zc⟩]⟩) (fun r => r.1.1.i) ⟨(⟨x.es.length, Nat.le_refl _⟩, (x.es.length : Int) - 1), rfl⟩ (gc [0, 1]) ?_
  rintro ⟨⟨⟨k, hk⟩, j⟩, hj⟩
  dsimp only at hj ⊢
  unfold Zc
  by_cases h0 : k = 0
  · subst h0
    have hj2 : ¬ j ≥ 0 := by omega
    have F := @hj2
    refine rn F ?_
    exact ⟨rfl, rfl, (Cp0, 0, false), rfl, Cp0_q⟩
  obtain ⟨i, rfl⟩ : ∃ i, k = i + 1 := ⟨k - 1, by omega⟩
  obtain rfl : j = (i : Int) := by omega
  have hg := fzE_g x.es i (by omega)
  have hb := hs i (by omega)
  have c2 := rcpdec_w (x.es.getD i E0).blob (by omega)
  have F := @hg
  refine rn F ?_
  repeat' (first
    | with_reducible exact ⟨⟩
    | (refine sB F ?_ ?_ <;> intro hZ)
    | (refine vc_S (c2) rfl ?_; rintro ⟨c, e⟩ hc; refine rn F ?_)
    | (refine vspine (id := 9) [0, 1, 2, 3, 4, 5, 6] [⟨[], [], 7, [1, 2, 3, 4, 5, 6], []⟩, ⟨[], [], 8, [], []⟩, ⟨[], [], 9, [], []⟩] (by kernel_rfl) (by kernel_rfl) ?_; refine rn F ?_))
  all_goals first
    | exact ⟨⟨(⟨i, by omega⟩, (i : Int) - 1), rfl⟩, by dsimp only; omega, (gc [0, 1])⟩
    | exact ⟨rfl, rfl, (c, _, true), rfl, hc⟩
    | skip
structure DyS (n : Nat) where
  i : Nat
  d : Bool
  out : List Dt
  hi : i ≤ n
  ho : out.length ≤ i + d.toNat
@[go_sem] def dtL (l : List Dt) : DV := .pv (.sl (fz encY l))
theorem rdirty_w (l : List Dt) (hl : l.length ≤ 1000000) (e : E) : VCalls prog 239 [.pv (.sl (fz encY l)), .agg e.d] [] (RetS dtL fun m => m.length ≤ l.length + 1) := by
  refine dk Tryz.func239 ?_
  have c1 := rchanges_v e
  generalize (e.kind == 1 || e.kind == 2) = ch at *
  (unfold Tryz.f239; refine rn trivial ?_)
  refine rn F ?_
  repeat' (first
    | with_reducible exact ⟨⟩
    | (refine sG F ?_ ?_ <;> intro hZ)
    | (refine sB F ?_ ?_ <;> intro hZ)
    | refine vp F (c1) ?_)
  all_goals first
    | exact ⟨rfl, rfl, l, rfl, Nat.le_succ _⟩
    | skip
  all_goals
    refine VLoop.nilOwn 5 180 3 rfl ?_
    refine vloopW (fun s : DyS l.length => ⟨100, 0, [(7, .int .i64 s.i), (6, .bool s.d), (5, .own 1 3 0 s.out.length), (3, .ptr 0 0), (0, .pv (.sl (fz encY l)))], [⟨41, true, e.d⟩, ⟨180, true, cells encY s.out⟩]⟩) (fun s => l.length - s.i) ⟨0, false, [], Nat.zero_le _, Nat.zero_le _⟩ (gc [0, 1]) ?_
    rintro ⟨i, d, out, hi, ho⟩
    dsimp only
    have hg := fun h : i < l.length => fzY_at l i h
    generalize l.getD i Dt0 = x at *
    have ho3 : out.length ≤ i + 1 := Nat.le_trans ho (Nat.add_le_add_left (Bool.toNat_le d) i)
    have hb1 : (out.length + 1) * 24 ≤ 140737488355328 := Nat.le_trans (Nat.mul_le_mul_right 24 (show out.length + 1 ≤ 1000002 by omega)) (by decide)
    have hb2 : (out.length + 1 + 1) * 24 ≤ 140737488355328 := Nat.le_trans (Nat.mul_le_mul_right 24 (show out.length + 1 + 1 ≤ 1000003 by omega)) (by decide)
    cases d
  all_goals first | simp only [Bool.toNat_false, Nat.add_zero] at ho | simp only [Bool.toNat_true] at ho
  all_goals
    have F := (And.intro @hg (And.intro @hb1 @hb2))
    refine rn F ?_
    repeat' (first
      | with_reducible exact ⟨⟩
      | (refine sG F ?_ ?_ <;> intro hZ)
      | (refine sB F ?_ ?_ <;> intro hZ)
      | refine vp F (c1) ?_)
  all_goals first
    | exact ⟨rfl, rfl, out, rfl, by omega⟩
    | exact ⟨rfl, rfl, _, rfl, by simp; omega⟩
    | exact ⟨⟨i + 1, false, out, by omega, by simp; omega⟩, by dsimp only; omega, (gc [0, 1])⟩
    | exact ⟨⟨i + 1, true, out, by omega, by simp; omega⟩, by dsimp only; omega, (gc [0, 1])⟩
    | (refine ⟨⟨i + 1, false, out ++ [⟨x.pg, x.rc, x.last⟩], by omega, by simp; omega⟩, by dsimp only; omega, ?_⟩; dsimp only; rw [List.length_append]; exact (gc [0, 4]))
    | (refine ⟨⟨i + 1, true, out ++ [⟨x.pg, x.rc, x.last⟩], by omega, by simp; omega⟩, by dsimp only; omega, ?_⟩; dsimp only; rw [List.length_append]; exact (gc [0, 4]))
    | (refine ⟨⟨i + 1, true, out ++ [⟨e.c.pg, e.lsn, e.lsn⟩] ++ [⟨x.pg, x.rc, x.last⟩], by omega, by simp; omega⟩, by dsimp only; omega, ?_⟩; dsimp only; rw [List.length_append, List.length_append]; exact (gc [0, 6]))
    | (refine ⟨⟨i + 1, false, out ++ [⟨x.pg, x.rc, e.lsn⟩], by omega, by simp; omega⟩, by dsimp only; omega, ?_⟩; dsimp only; rw [List.length_append]; exact (gc [0, 4]))
    | (refine ⟨⟨i + 1, true, out ++ [⟨x.pg, x.rc, e.lsn⟩], by omega, by simp; omega⟩, by dsimp only; omega, ?_⟩; dsimp only; rw [List.length_append]; exact (gc [0, 4]))
    | (refine ⟨⟨i + 1, true, out ++ [⟨e.c.pg, e.lsn, e.lsn⟩] ++ [⟨x.pg, x.rc, e.lsn⟩], by omega, by simp; omega⟩, by dsimp only; omega, ?_⟩; dsimp only; rw [List.length_append, List.length_append]; exact (gc [0, 6]))
    | (refine ⟨⟨i + 1, false, out ++ [⟨x.pg, IntKind.i64.wrap (e.ref + 1), x.last⟩], by omega, by simp; omega⟩, by dsimp only; omega, ?_⟩; dsimp only; rw [List.length_append]; exact (gc [0, 4]))
    | (refine ⟨⟨i + 1, true, out ++ [⟨x.pg, IntKind.i64.wrap (e.ref + 1), x.last⟩], by omega, by simp; omega⟩, by dsimp only; omega, ?_⟩; dsimp only; rw [List.length_append]; exact (gc [0, 4]))
    | (refine ⟨⟨i + 1, true, out ++ [⟨e.c.pg, e.lsn, e.lsn⟩] ++ [⟨x.pg, IntKind.i64.wrap (e.ref + 1), x.last⟩], by omega, by simp; omega⟩, by dsimp only; omega, ?_⟩; dsimp only; rw [List.length_append, List.length_append]; exact (gc [0, 6]))
    | skip
theorem rless_w (a b : Gr) : VCalls prog 244 [.agg a.d, .agg b.d] [] (RetS boD fun _ => True) := by
  refine dd Tryz.func244 ?_
  (unfold Tryz.f244; refine rn trivial ?_)
  refine rn F ?_
  repeat' (first
    | with_reducible exact ⟨⟩
    | (refine sB F ?_ ?_ <;> intro hZ))
  all_goals exact ⟨rfl, rfl, _, rfl, trivial⟩
@[go_sem] def grL (l : List Gr) : DV := .pv (.sl (fz encG l))
theorem rwith16_w (l : List Gr) (hl : l.length ≤ 10000000) (g : Gr) : VCalls prog 240 [.pv (.sl (fz encG l)), .agg g.d] [] (RetS grL fun m => m.length ≤ l.length + 1) := by
  refine dk Tryz.func240 ?_
  have c1 := fun a => rless_w a g
  (unfold Tryz.f240; refine rn trivial ?_)
  refine vloopW (fun s : To l.length => ⟨44, 0, [(5, .int .i64 s.i), (3, .ptr 0 0), (0, .pv (.sl (fz encG l)))], [⟨213, true, g.d⟩]⟩) (fun s => l.length - s.i) ⟨0, Nat.zero_le _⟩ (gc [0]) ?_
  rintro ⟨i, hi⟩
  dsimp only
  have hg := fun h : i < l.length => fzG_at l i h
  by_cases hil : i < l.length
  · have hg := fzG_at l i hil
    have c2 := rless_w (l.getD i Gr0) g
    generalize l.getD i Gr0 = x at *
    have he := allEq4 x.tx x.pg x.sl x.md g.tx g.pg g.sl g.md
    have hb : (i + 1 + (l.length - i)) * 32 ≤ 140737488355328 := by omega
    have F := (And.intro @hg (And.intro @he @hb))
    refine rn F ?_
    repeat' (first
      | with_reducible exact ⟨⟩
      | (refine sB F ?_ ?_ <;> intro hZ)
      | (refine vc_S (c2) rfl ?_; rintro b -; refine rn F ?_)
      | (refine vspine (id := 2) [0, 1, 2, 3, 4, 5, 6, 7, 8, 9] [⟨[], [], 10, [0, 1, 2, 3, 5, 6, 7], [11]⟩] (by kernel_rfl) (by kernel_rfl) ?_; refine rn F ?_)
      | (refine vspine (id := 4) [0, 1, 2, 3, 4, 5, 6, 7, 8, 9, 10, 11] [] (by kernel_rfl) (by kernel_rfl) ?_; refine rn F ?_)
      | (refine vspine (id := 6) [0, 1, 2, 4, 7, 8, 9] [⟨[5], [], 3, [0, 1, 4, 7, 8, 9], []⟩, ⟨[5], [5], 6, [0, 1, 2, 4, 7, 8, 9], []⟩, ⟨[], [], 10, [0, 1, 2, 4, 7, 8], []⟩, ⟨[], [], 11, [], []⟩] (by kernel_rfl) (by kernel_rfl) ?_; refine rn F ?_))
    all_goals first
      | exact ⟨⟨i + 1, by omega⟩, by dsimp only; omega, (gc [0])⟩
      | exact ⟨rfl, rfl, l, rfl, Nat.le_succ _⟩
      | exact ⟨rfl, rfl, _, rfl, by simp; omega⟩
      | skip
  · skip
    have F := trivial
    refine rn F ?_
    repeat' (first
      | with_reducible exact ⟨⟩
      | (refine vspine (id := 2) [0, 1, 2, 3, 4, 5, 6, 7, 8, 9] [⟨[], [], 10, [0, 1, 2, 3, 5, 6, 7], [11]⟩] (by kernel_rfl) (by kernel_rfl) ?_; refine rn F ?_)
      | (refine vspine (id := 4) [0, 1, 2, 3, 4, 5, 6, 7, 8, 9, 10, 11] [] (by kernel_rfl) (by kernel_rfl) ?_; refine rn F ?_)
      | (refine vspine (id := 6) [0, 1, 2, 4, 7, 8, 9] [⟨[5], [], 3, [0, 1, 4, 7, 8, 9], []⟩, ⟨[5], [5], 6, [0, 1, 2, 4, 7, 8, 9], []⟩, ⟨[], [], 10, [0, 1, 2, 4, 7, 8], []⟩, ⟨[], [], 11, [], []⟩] (by kernel_rfl) (by kernel_rfl) ?_; refine rn F ?_))
    exact ⟨rfl, rfl, _, rfl, by simp; omega⟩
@[go_sem] def lkR (a : List Gr × Int) : DV := .tup [.pv (.sl (fz encG a.1)), .int .i64 a.2]
structure LkO (n : Nat) where
  i : Nat
  out : List Gr
  hi : i ≤ n
  ho : out.length ≤ 100000 * i
structure LkI (n i : Nat) where
  k : Nat
  out : List Gr
  hk : k ≤ n
  ho : out.length ≤ 100000 * i + k
theorem rlocks_w (x : Lg) (hx : x.es.length ≤ 1000000) (l : List Tx) (hl : smN 65 l) : VCalls prog 209 [.agg x.c, .pv (.sl (fz encT l))] [] (RetS lkR fun a => a.1.length ≤ 6500000) := by
  refine dk Tryz.func209 ?_
  have h65 := hl.1
  (unfold Tryz.f209; refine rn trivial ?_)
  refine VLoop.wkS ?_
  refine rn trivial ?_
  refine vloopW (fun s : LkO l.length => ⟨68, 0, [(7, .int .i64 s.i), (6, .pv (.sl (fz encG s.out))), (2, .ptr 0 0), (1, .pv (.sl (fz encT l)))], [⟨28, true, x.c⟩]⟩) (fun s => l.length - s.i) ⟨0, [], Nat.zero_le _, Nat.zero_le _⟩ (gc [0]) ?_
  rintro ⟨i, out, hi, ho⟩
  dsimp only
  by_cases hil : i < l.length
  rotate_left
  · skip
    refine rn F ?_
    exact ⟨rfl, rfl, (out, 0), rfl, by dsimp only; omega⟩
  have hg := fzT_g l i hil
  have hss : (l.getD i Tx0).l.length ≤ 100000 := by rw [getD_eq _ _ hil]; exact (hl.2 _ (List.getElem_mem hil)).1
  generalize l.getD i Tx0 = t at *
  refine rn F ?_
  refine vloopW (fun s : LkI t.l.length i => ⟨68, 0, [(8, .int .i64 s.k), (7, .int .i64 i), (6, .pv (.sl (fz encG s.out))), (2, .ptr 0 0), (1, .pv (.sl (fz encT l)))], [⟨28, true, x.c⟩]⟩) (fun s => t.l.length - s.k) ⟨0, out, Nat.zero_le _, ho⟩ (gc [0]) ?_
  rintro ⟨k, out2, hk, ho2⟩
  dsimp only
  by_cases hkl : k < t.l.length
  rotate_left
  · skip
    have F := @hg
    refine rn F ?_
    exact ⟨⟨i + 1, out2, hil, by rw [Nat.mul_succ]; omega⟩, by dsimp only; omega, (gc [0])⟩
  have hg2 := fzI_get t.l k hkl
  have c1 := rget_e x (by omega) (t.l.getD k 0)
  generalize getE x (t.l.getD k 0) = r at *
  obtain ⟨e, f⟩ := r
  dsimp only at c1
  have c2 := rwith16_w out2 (by omega) ⟨e.tx, e.c.pg, e.c.sl, 2⟩
  have F := (And.intro @hg @hg2)
  refine rn F ?_
  repeat' (first
    | with_reducible exact ⟨⟩
    | (refine sG F ?_ ?_ <;> intro hZ)
    | (refine sB F ?_ ?_ <;> intro hZ)
    | refine vp F (c1) ?_
    | (refine vc_S (c2) rfl ?_; rintro m hm; refine rn F ?_)
    | (refine vspine (id := 8) [0, 1, 2, 3, 4, 5, 6, 7, 8] [⟨[13], [], 9, [1, 2, 3, 4, 5, 6, 7], [10, 11, 12]⟩, ⟨[13], [13], 14, [12], []⟩, ⟨[], [], 15, [], []⟩] (by kernel_rfl) (by kernel_rfl) ?_; refine rn F ?_)
    | (refine vspine (id := 11) [0, 1, 2, 3, 4, 5, 6, 7, 8, 9, 10, 11, 12] [] (by kernel_rfl) (by kernel_rfl) ?_; refine rn F ?_))
  all_goals first
    | exact ⟨rfl, rfl, ([], _), rfl, Nat.zero_le _⟩
    | exact ⟨⟨k + 1, m, hkl, by omega⟩, by dsimp only; omega, (gc [0])⟩
    | skip
structure An where
  pg : Int
  nx : Int
  cp : Int
  lo : List Tx
  lk : List Gr
  la : List Dt
  ix : List Rw
@[go_sem] def An.d (a : An) : List DV := [.int .i64 a.pg, .int .i64 a.nx, .int .i64 a.cp, .pv (.sl (fz encT a.lo)), .pv (.sl (fz encG a.lk)), .pv (.sl (fz encY a.la)), .pv (.sl (fz encR a.ix))]
def An0 : An := ⟨0, 0, 0, [], [], [], []⟩
def An.sm (a : An) (n : Nat) : Prop := smN 65 a.lo ∧ a.lk.length ≤ 6500000 ∧ a.la.length ≤ n ∧ a.ix.length ≤ 64
theorem An0_sm (n : Nat) : An0.sm n := ⟨smN_nil _, Nat.zero_le _, Nat.zero_le _, Nat.zero_le _⟩
@[go_sem] def anD (a : An × Int) : DV := .tup [.agg a.1.d, .int .i64 a.2]
theorem rnote16_w (a : An) (n : Nat) (hn : n ≤ 100000) (ha : a.sm n) (e : E) : VCalls prog 208 [.agg a.d, .agg e.d] [] (RetS anD fun r => r.1.sm (n + 1)) := by
  refine dk Tryz.func208 ?_
  obtain ⟨h1, h2, h3, h4⟩ := ha
  have hl := h1.1
  have c1 := rfind_v a.lo (by omega) e.tx
  have c2 := rbegin_v a.lo (h1.smL (by omega)) e.tx
  have c3 := rnote_v a.lo (h1.smL (by omega)) e
  have hs2 := beginS_sm (l := a.lo) e.tx
  have hs3 := noteS_sm (l := a.lo) e
  have c4 := rnote_v (beginS a.lo e.tx).1 (hs2.smL (by omega)) e
  have hs4 := noteS_sm (l := (beginS a.lo e.tx).1) e
  have c5 := rixnote_v a.ix (by omega) e
  have h5 := noteR_len a.ix e h4
  have c6 := rchanges_v e
  have c7 := rdirty_w a.la (by omega) e
  generalize noteS (beginS a.lo e.tx).1 e = N2 at *
  generalize beginS a.lo e.tx = B at *
  generalize noteS a.lo e = N1 at *
  generalize noteR a.ix e = R at *
  generalize (e.kind == 1 || e.kind == 2) = ch at *
  generalize idT a.lo e.tx = f at *
  obtain ⟨b, eb⟩ := B
  obtain ⟨n1, e1⟩ := N1
  obtain ⟨n2, e2⟩ := N2
  obtain ⟨r, er⟩ := R
  dsimp only at *
  have old : ∀ z, RetS anD (fun r => r.1.sm (n + 1)) (anD (a, z)) [] := fun z => ⟨rfl, rfl, (a, z), rfl, h1, h2, by dsimp only; omega, h4⟩
  (unfold Tryz.f208; refine rn trivial ?_)
  refine rn F ?_
  repeat' (first
    | with_reducible exact ⟨⟩
    | (refine sG F ?_ ?_ <;> intro hZ)
    | (refine sB F ?_ ?_ <;> intro hZ)
    | refine vp F (c1) ?_
    | refine vp F (c2) ?_
    | refine vp F (c3) ?_
    | refine vp F (c4) ?_
    | refine vp F (c5) ?_
    | refine vp F (c6) ?_
    | (refine vc_S (c7) rfl ?_; rintro la hla; refine rn F ?_))
  all_goals first
    | exact old _
    | exact ⟨rfl, rfl, (⟨a.pg, _, a.cp, b, a.lk, a.la, a.ix⟩, _), rfl, hs2, h2, by dsimp only; omega, h4⟩
    | exact ⟨rfl, rfl, (⟨a.pg, _, a.cp, n1, a.lk, a.la, a.ix⟩, _), rfl, hs3, h2, by dsimp only; omega, h4⟩
    | exact ⟨rfl, rfl, (⟨a.pg, _, a.cp, n1, a.lk, a.la, r⟩, _), rfl, hs3, h2, by dsimp only; omega, h5⟩
    | exact ⟨rfl, rfl, (⟨a.pg, _, a.cp, n1, a.lk, la, r⟩, _), rfl, hs3, h2, Nat.le_trans hla (Nat.succ_le_succ h3), h5⟩
    | exact ⟨rfl, rfl, (⟨a.pg, _, a.cp, n2, a.lk, a.la, a.ix⟩, _), rfl, hs4, h2, by dsimp only; omega, h4⟩
    | exact ⟨rfl, rfl, (⟨a.pg, _, a.cp, n2, a.lk, a.la, r⟩, _), rfl, hs4, h2, by dsimp only; omega, h5⟩
    | exact ⟨rfl, rfl, (⟨a.pg, _, a.cp, n2, a.lk, la, r⟩, _), rfl, hs4, h2, Nat.le_trans hla (Nat.succ_le_succ h3), h5⟩
theorem rbegin16_w (x : Lg) (hx : x.es.length ≤ 1000000) (n : Int) : VCalls prog 207 [.agg x.c, .int .i64 n] [] (RetS anD fun r => r.1.sm 256) := by
  refine dk Tryz.func207 ?_
  have c1 := rlatest_w x hx
  have c2 := rixnew_w n
  (unfold Tryz.f207; refine rn trivial ?_)
  refine rn F ?_
  repeat' (first
    | with_reducible exact ⟨⟩
    | (refine sB F ?_ ?_ <;> intro hZ)
    | (refine vc_S (c1) rfl ?_; rintro ⟨c, at_, ok⟩ hc; refine rn F ?_)
    | (refine vc_S (c2) rfl ?_; rintro ⟨ix, e⟩ hi; refine rn F ?_))
  all_goals first
    | exact ⟨rfl, rfl, (An0, 24), rfl, An0_sm _⟩
    | exact ⟨rfl, rfl, (⟨n, 1, 0, [], [], [], ix⟩, 0), rfl, smN_nil _, Nat.zero_le _, Nat.zero_le _, hi⟩
    | exact ⟨rfl, rfl, (⟨n, c.nx, at_, c.tx, [], c.dl, c.ix⟩, 0), rfl, hc.1.mono (by decide), Nat.zero_le _, hc.2.1, hc.2.2⟩
    | skip
section
attribute [local go_sem] lenT allT appT slkT srcT frzT app_T bodyc headc_seq headc_zero restc_seq restc_zero
structure AnS (x : Lg) where
  i : Nat
  a : An
  hi : i ≤ x.es.length
  ha : a.sm (256 + i)
structure LoS (l : List Tx) where
  i : Nat
  out : List Tx
  hi : i ≤ l.length
  ho : out.length ≤ i
  hs : ∀ t ∈ out, t.ss
def Za : List DV := [.int .i64 0, .int .i64 0, .int .i64 0, .pv (.slc []), .pv (.slc []), .pv (.slc []), .pv (.slc [])]
theorem analyse_tail (x : Lg) (hx : x.es.length ≤ 4096) (a : An) (ha : a.sm 10000) (out : List Tx) (ho : smN 65 out) : VWp prog (restc 8 (bodyc Tryz.f162)) (vpostK prog [ResultVar.cell 4 258, ResultVar.tmp 5] 0 (RetS anD fun r => r.1.sm 10000)) ⟨98, 0, [(9, .pv (.sl (fz encT out))), (6, .ptr 2 0), (4, .ptr 1 0), (2, .ptr 0 0)], [⟨28, true, x.c⟩, ⟨258, true, Za⟩, ⟨258, true, a.d⟩]⟩ := by
  refine vcode_sound _ _ _ ?_
  have c4 := rlocks_w x (by omega) out ho
  unfold Za
  (unfold Tryz.f162; refine rn trivial ?_)
  refine rn F ?_
  repeat' (first
    | with_reducible exact ⟨⟩
    | (refine sB F ?_ ?_ <;> intro hZ)
    | (refine vc_S (c4) rfl ?_; rintro ⟨lk, e⟩ hlk; refine rn F ?_))
  · exact ⟨rfl, rfl, (An0, _), rfl, An0_sm _⟩
  · exact ⟨rfl, rfl, (⟨a.pg, a.nx, a.cp, out, lk, a.la, a.ix⟩, 0), rfl, ho, hlk, ha.2.2.1, ha.2.2.2⟩
theorem ranalyse_w (x : Lg) (hx : x.es.length ≤ 4096) (n : Int) : VCalls prog 162 [.agg x.c, .int .i64 n] [] (RetS anD fun r => r.1.sm 10000) := by
  refine vcalls_dropW (fn := Tryz.f162) (c := bodyc Tryz.f162) Tryz.func162 rfl (by kernel_rfl) (by simp [Tryz.f162]) (VWp.postK ?_)
  refine vcut 8 ?_
  have tail := fun a ha out ho => analyse_tail x hx a ha out ho
  generalize restc 8 (bodyc Tryz.f162) = rest at *
  have c1 := rlvalid_v x (by omega)
  have c2 := rbegin16_w x (by omega) n
  generalize lgB x = ok at *
  have err : ∀ z, RetS anD (fun r => r.1.sm 10000) (anD (An0, z)) [] := fun z => ⟨rfl, rfl, (An0, z), rfl, An0_sm _⟩
  (unfold Tryz.f162; refine rn trivial ?_)
  refine rn F ?_
  repeat' (first
    | with_reducible exact ⟨⟩
    | (refine sG F ?_ ?_ <;> intro hZ)
    | (refine sB F ?_ ?_ <;> intro hZ)
    | refine vp F (c1) ?_
    | (refine vc_S (c2) rfl ?_; rintro ⟨a0, e0⟩ h0; refine rn F ?_))
  all_goals first | exact err _ | skip
  dsimp only at h0
  refine vloopW (fun s : AnS x => ⟨98, 0, [(8, .int .i64 s.i), (6, .ptr 2 0), (4, .ptr 1 0), (2, .ptr 0 0)], [⟨28, true, x.c⟩, ⟨258, true, Za⟩, ⟨258, true, s.a.d⟩]⟩) (fun s => x.es.length - s.i) ⟨0, a0, Nat.zero_le _, h0⟩ (gc [0, 1, 2]) ?_
  rintro ⟨i, a, hi, ha⟩
  dsimp only
  unfold Za
  by_cases hil : i < x.es.length
  · have hg := fzE_g x.es i hil
    have c3 := rnote16_w a (256 + i) (by omega) ha (x.es.getD i E0)
    generalize x.es.getD i E0 = e at *
    have F := @hg
    refine rn F ?_
    repeat' (first
      | with_reducible exact ⟨⟩
      | (refine sB F ?_ ?_ <;> intro hZ)
      | (refine vc_S (c3) rfl ?_; rintro ⟨a1, e1⟩ h1; refine rn F ?_)
      | (refine vspine (id := 11) [0, 1, 2, 3, 4, 5, 6, 7, 8] [] (by kernel_rfl) (by kernel_rfl) ?_; refine rn F ?_)
      | (refine vspine (id := 12) [0, 1, 2, 3, 4, 5] [⟨[], [], 6, [1, 2, 3, 4], [7, 8, 9]⟩, ⟨[], [], 10, [9], []⟩, ⟨[], [], 11, [], []⟩] (by kernel_rfl) (by kernel_rfl) ?_; refine rn F ?_))
    all_goals first
      | exact err _
      | exact ⟨⟨i + 1, a, hil, ha.1, ha.2.1, Nat.le_succ_of_le ha.2.2.1, ha.2.2.2⟩, by dsimp only; omega, (gc [0, 1, 2])⟩
      | exact ⟨⟨i + 1, a1, hil, h1⟩, by dsimp only; omega, (gc [0, 1, 2])⟩
      | skip
  have F := trivial
  refine rn F ?_
  refine VLoop.nilOwn 9 209 6 rfl ?_
  have hlo := ha.1.1
  refine vloopW (fun s : LoS a.lo => ⟨98, 0, [(10, .int .i64 s.i), (9, .own 3 6 0 s.out.length), (6, .ptr 2 0), (4, .ptr 1 0), (2, .ptr 0 0)], [⟨28, true, x.c⟩, ⟨258, true, Za⟩, ⟨258, true, a.d⟩, ⟨209, true, cells encT s.out⟩]⟩) (fun s => a.lo.length - s.i) ⟨0, [], Nat.zero_le _, Nat.zero_le _, fun t h => by simp at h⟩ (gc [0, 1, 2, 3]) ?_
  rintro ⟨k, out, hk, ho, hs⟩
  dsimp only
  unfold Za
  by_cases hkl : k < a.lo.length
  · have hg := fzT_g a.lo k hkl
    have hss : (a.lo.getD k Tx0).ss := by rw [getD_eq _ _ hkl]; exact ha.1.2 _ (List.getElem_mem hkl)
    have hb : (out.length + 1) * 80 ≤ 140737488355328 := Nat.le_trans (Nat.mul_le_mul_right 80 (show out.length + 1 ≤ 1000 by omega)) (by decide)
    generalize a.lo.getD k Tx0 = t at *
    have F := (And.intro @hg @hb)
    refine rn F ?_
    repeat' (first
      | with_reducible exact ⟨⟩
      | (refine sB F ?_ ?_ <;> intro hZ))
    · have hl2 : (out ++ [t]).length = out.length + 1 := by simp
      refine ⟨⟨k + 1, out ++ [t], hkl, by rw [hl2]; omega, fun z hz => ?_⟩, by dsimp only; omega, ?_⟩
      · rcases List.mem_append.1 hz with h | h
        · exact hs z h
        · rw [List.mem_singleton.1 h]; exact hss
      dsimp only
      rw [hl2]
      exact (gc [0, 1, 2, 5])
    · exact ⟨⟨k + 1, out, hkl, by omega, hs⟩, by dsimp only; omega, (gc [0, 1, 2, 3])⟩
  have hsm : smN 65 out := ⟨by omega, hs⟩
  have F := trivial
  refine rn F ?_
  refine ⟨⟨98, 0, [(9, .pv (.sl (fz encT out))), (6, .ptr 2 0), (4, .ptr 1 0), (2, .ptr 0 0)], [⟨28, true, x.c⟩, ⟨258, true, Za⟩, ⟨258, true, a.d⟩]⟩, .fzN (n := 3) ⟨rfl, rfl, Nat.zero_le _, by simp, ?_, ?_⟩, tail a (by have := ha; exact ⟨this.1, this.2.1, Nat.le_trans this.2.2.1 (by omega), this.2.2.2⟩) out hsm⟩
  · rfl
  · refine ⟨?_, rfl, rfl, rfl, trivial⟩
    (refine rn trivial ?_; try with_reducible exact ⟨⟩)
end
section
attribute [local go_sem] iteLe
structure Rd where
  tx : Int
  pg : Int
  sl : Int
  at_ : Int
  cell : Ce
def encO : Enc Rd := ⟨6, fun r => [.lit (.int .i64 r.tx), .lit (.int .i64 r.pg), .lit (.int .i64 r.sl), .lit (.int .i64 r.at_), .lit (.bool r.cell.set), .str r.cell.data], by decide, fun _ => rfl⟩
theorem lenO (l : List Rd) : (cells encO l).length = l.length * 6 := cells_len encO l
theorem allO (l : List Rd) (n : Nat) (h : l.length * 6 ≤ n) : (cells encO l).take n = cells encO l := by rw [List.take_of_length_le]; rw [lenO]; exact h
theorem frzO {n : Nat} {hp : Heap} {len : Nat} {l : List Rd} (h : l.length = len) : frzC n hp 0 6 len (some (cells encO l)) = some (.sl (fz encO l)) := frzC_cells encO h
theorem app_O (l : List Rd) (a b c d : Int) (x : Bool) (s : List UInt8) : cells encO l ++ [.pv (.lit (.int .i64 a)), .pv (.lit (.int .i64 b)), .pv (.lit (.int .i64 c)), .pv (.lit (.int .i64 d)), .pv (.lit (.bool x)), .pv (.str s)] = cells encO (l ++ [⟨a, b, c, d, ⟨x, s⟩⟩]) := by rw [cells_app]; rfl
attribute [go_sem] lenO allO frzO app_O
structure Sp where
  kind : Int
  tx : Int
  pg : Int
  torn : Int
  cut : Int
  a : Ac
@[go_sem] def Sp.d (t : Sp) : List DV := [.int .i64 t.kind, .int .i64 t.tx, .int .i64 t.pg, .int .i64 t.torn, .int .i64 t.cut, .int .i64 t.a.kind, .int .i64 t.a.pg, .int .i64 t.a.sl, .pv (.str t.a.data)]
structure Sc where
  s : Sv
  tx : List Int
  rd : List Rd
  dead : Bool
def Sc.sm (c : Sc) (n : Nat) : Prop := c.s.sm ∧ c.tx.length ≤ n ∧ c.rd.length ≤ n
@[go_sem] def scB (c : Sc) (i j : Nat) : Blk := ⟨137, true, c.s.d ++ [.own i 1 0 c.tx.length, .own j 6 0 c.rd.length, .bool c.dead]⟩
@[go_sem] def scT (l : List Int) : Blk := ⟨3, true, cells encI l⟩
@[go_sem] def scR (l : List Rd) : Blk := ⟨165, true, cells encO l⟩
@[go_sem] def deadI : Blk := ⟨3, false, []⟩
@[go_sem] def deadO : Blk := ⟨165, false, []⟩
def ScEnd {α : Type} (f : α → DV) (Q : Nat → Sc → α → Prop) : DV → Heap → Prop := fun r h' => ∃ c a B, r = f a ∧ (f a).nums (fun _ => false) = true ∧ ((Q 0 c a ∧ h' = scB c 1 2 :: scT c.tx :: scR c.rd :: [B]) ∨ (Q 1 c a ∧ h' = scB c 3 2 :: deadI :: scR c.rd :: scT c.tx :: [B]) ∨ (Q 2 c a ∧ h' = scB c 1 3 :: scT c.tx :: deadO :: scR c.rd :: [B]))
theorem ScEnd.mono {α : Type} {f : α → DV} {Q Q' : Nat → Sc → α → Prop} (h : ∀ n c a, Q n c a → Q' n c a) : ∀ r h', ScEnd f Q r h' → ScEnd f Q' r h'
  | _, _, ⟨c, a, B, e1, e2, .inl ⟨q, e⟩⟩ => ⟨c, a, B, e1, e2, .inl ⟨h _ _ _ q, e⟩⟩
  | _, _, ⟨c, a, B, e1, e2, .inr (.inl ⟨q, e⟩)⟩ => ⟨c, a, B, e1, e2, .inr (.inl ⟨h _ _ _ q, e⟩)⟩
  | _, _, ⟨c, a, B, e1, e2, .inr (.inr ⟨q, e⟩)⟩ => ⟨c, a, B, e1, e2, .inr (.inr ⟨h _ _ _ q, e⟩)⟩
theorem vc_sc {α : Type} {f : α → DV} {Q : Nat → Sc → α → Prop} {P : Program} {g : FuncId} {args args0 : List DV} {hp : Heap} {K : DV → Heap → Prop} {c : Sc} (k0 k1 k2 : Nat) (cc : VCalls P g args0 [scB c 1 2, scT c.tx, scR c.rd] (ScEnd f Q)) (hk0 : hp[k0]? = some (scB c k1 k2)) (hk1 : hp[k1]? = some (scT c.tx)) (hk2 : hp[k2]? = some (scR c.rd)) (n01 : k0 ≠ k1) (n02 : k0 ≠ k2) (n12 : k1 ≠ k2)
    (ha0 : args0 = args.map (DV.ren fun j => [k0, k1, k2].idxOf j)) (ha : DV.nums.go [k0, k1, k2].contains args = true)
    (hN : ∀ c a, Q 0 c a → ∀ B, K (f a) (((hp.set k0 (scB c k1 k2)).set k1 (scT c.tx)).set k2 (scR c.rd) ++ [B]))
    (hT : ∀ c a, Q 1 c a → ∀ B, K (f a) (((hp.set k0 (scB c hp.length k2)).set k1 deadI).set k2 (scR c.rd) ++ scT c.tx :: [B]))
    (hR : ∀ c a, Q 2 c a → ∀ B, K (f a) (((hp.set k0 (scB c k1 hp.length)).set k1 (scT c.tx)).set k2 deadO ++ scR c.rd :: [B])) : VCalls P g args hp K := by
  have l0 : k0 < hp.length := (List.getElem?_eq_some_iff.1 hk0).1
  have l1 : k1 < hp.length := (List.getElem?_eq_some_iff.1 hk1).1
  have l2 : k2 < hp.length := (List.getElem?_eq_some_iff.1 hk2).1
  have q1 : (k0 == k1) = false := by simp [n01]
  have q2 : (k0 == k2) = false := by simp [n02]
  have q3 : (k1 == k2) = false := by simp [n12]
  have rt : ∀ (σ : Nat → Nat) l, renB σ (scT l) = scT l := fun σ l => renB_plain (cells_nums _ _ _)
  have rr : ∀ (σ : Nat → Nat) l, renB σ (scR l) = scR l := fun σ l => renB_plain (cells_nums _ _ _)
  have rs : ∀ (σ : Nat → Nat) (c : Sc) i j, renB σ (scB c i j) = scB c (σ i) (σ j) := fun σ c i j => rfl
  have i0 : [k0, k1, k2].idxOf k0 = 0 := by simp
  have i1 : [k0, k1, k2].idxOf k1 = 1 := by simp [List.idxOf_cons, q1]
  have i2 : [k0, k1, k2].idxOf k2 = 2 := by simp [List.idxOf_cons, q2, q3]
  refine (VCalls.frame [k0, k1, k2] (by simp [n01, n02, n12]) ?_ ?_ cc ha0 ha).mono ?_
  · simp only [lentTo, List.map_cons, List.map_nil, hk0, hk1, hk2, Option.map_some, allSome, rt, rr, rs, i1, i2]
  · unfold lentOk
    rw [List.all_eq_true]
    intro k hk
    simp only [List.mem_cons, List.not_mem_nil, or_false] at hk
    rcases hk with rfl | rfl | rfl
    · rw [hk0]
      simp [scB, Sv.d, DV.nums, DV.nums.go]
    · rw [hk1]
      dsimp only
      rw [show (scT c.tx).cells = cells encI c.tx from rfl, nums_mono_go _ _ (cells_nums _ _ _)]; simp
    · rw [hk2]
      dsimp only
      rw [show (scR c.rd).cells = cells encO c.rd from rfl, nums_mono_go _ _ (cells_nums _ _ _)]; simp
  · rintro r h2 ⟨r0, h', ⟨c1, a, B, rfl, hn, e⟩, -, rfl, rfl⟩
    rw [ren_id _ _ hn]
    have b1 : back [k0, k1, k2] hp.length 1 = k1 := rfl
    have b2 : back [k0, k1, k2] hp.length 2 = k2 := rfl
    have b3 : back [k0, k1, k2] hp.length 3 = hp.length := rfl
    have rI : ∀ (σ : Nat → Nat), renB σ deadI = deadI := fun σ => rfl
    have rO : ∀ (σ : Nat → Nat), renB σ deadO = deadO := fun σ => rfl
    rcases e with ⟨q, rfl⟩ | ⟨q, rfl⟩ | ⟨q, rfl⟩ <;> rw [behind_three l0 l1 l2 n01 n02 n12]
    · rw [rs, rt, rr, b1, b2]; exact hN c1 a q _
    · rw [rs, rI, rr, b2, b3, List.map_cons, rt]; exact hT c1 a q _
    · rw [rs, rt, rO, b1, b3, List.map_cons, rr]; exact hR c1 a q _
def resR (e : Int) : Rs := if e = 0 then ⟨1, 0, 0, Ce0, 0⟩ else failR e
theorem rresult_v (e : Int) : VCalls prog 84 [.int .i64 e] [] (Ret (.agg (resR e).d)) := by
  refine dd Tryz.func84 ?_
  have c1 := failed_v e
  (unfold Tryz.f84; refine rn trivial ?_)
  unfold resR
  refine rn F ?_
  repeat' (first
    | with_reducible exact ⟨⟩
    | (refine sB F ?_ ?_ <;> intro hZ)
    | refine vp F (c1) ?_)
  all_goals first
    | (rw [if_pos (by assumption)]; first | done | rfl)
    | (rw [if_neg (by assumption)]; first | done | rfl)
@[go_sem] def rsD (r : Rs) : DV := .agg r.d
theorem rkeep_w (c : Sc) (s : Sv) (e : Int) : VCalls prog 80 [.ptr 0 0, .agg s.d, .int .i64 e] [scB c 1 2, scT c.tx, scR c.rd] (ScEnd rsD fun n c' r => n = 0 ∧ c' = ⟨if e = 0 then s else c.s, c.tx, c.rd, c.dead⟩ ∧ r = resR e) := by
  refine vcalls_keepg (fn := Tryz.f80) Tryz.func80 rfl (by kernel_rfl) (by simp [Tryz.f80]) ?_
  have c1 := rresult_v e
  (unfold Tryz.f80; refine rn trivial ?_)
  refine rn F ?_
  repeat' (first
    | with_reducible exact ⟨⟩
    | (refine sB F ?_ ?_ <;> intro hZ)
    | refine vp F (c1) ?_)
  · exact vpostG_gc ⟨15, 3, [(6, .ptr 3 0)], [scB ⟨s, c.tx, c.rd, c.dead⟩ 1 2, scT c.tx, scR c.rd, ⟨139, true, (resR e).d⟩]⟩ (gc [0, 1, 2, 4]) ⟨⟨s, c.tx, c.rd, c.dead⟩, resR e, _, rfl, rfl, .inl ⟨⟨rfl, by rw [if_pos (by assumption)], rfl⟩, rfl⟩⟩
  · exact vpostG_gc ⟨15, 3, [(6, .ptr 3 0)], [scB c 1 2, scT c.tx, scR c.rd, ⟨139, true, (resR e).d⟩]⟩ (gc [0, 1, 2, 4]) ⟨c, resR e, _, rfl, rfl, .inl ⟨⟨rfl, by rw [if_neg (by assumption)], rfl⟩, rfl⟩⟩
end
section
attribute [local go_sem] iteLe
def scQ (c : Sc) (n m : Nat) (c' : Sc) (_ : Rs) : Prop := m ≠ 1 ∧ c'.sm n ∧ c'.dead = c.dead ∧ Ev c.s.k.lg c'.s.k.lg
theorem scQ_same (c : Sc) (n : Nat) (hc : c.sm n) (r : Rs) : scQ c (n + 1) 0 c r := ⟨by decide, ⟨hc.1, Nat.le_succ_of_le hc.2.1, Nat.le_succ_of_le hc.2.2⟩, rfl, Ev.refl _⟩
theorem ract_w (c : Sc) (n : Nat) (hn : n ≤ 2000) (hc : c.sm n) (t : Sp) : VCalls prog 81 [.ptr 0 0, .agg t.d] [scB c 1 2, scT c.tx, scR c.rd] (ScEnd rsD (scQ c (n + 1))) := by
  refine vcalls_keepg (fn := Tryz.f81) Tryz.func81 rfl (by kernel_rfl) (by simp [Tryz.f81]) ?_
  have c1 := failed_v 16
  have hq0 := scQ_same c n hc
  have h1 := hc.2.1
  have h2 := hc.2.2
  by_cases h0 : ∃ i : Nat, i < c.tx.length ∧ t.tx = i + 1
  rotate_left
  · have h3 : t.tx < 1 ∨ c.tx.length < t.tx := by
      by_cases ha : t.tx < 1
      · exact .inl ha
      · by_cases hb : c.tx.length < t.tx
        · exact .inr hb
        · exact absurd ⟨(t.tx - 1).toNat, by omega, by omega⟩ h0
    (unfold Tryz.f81; refine rn trivial ?_)
    refine rn F ?_
    repeat' (first
      | with_reducible exact ⟨⟩
      | (refine sG F ?_ ?_ <;> intro hZ)
      | refine vp F (c1) ?_
      | (refine vspine (id := 1) [0, 1, 2, 3, 4, 5, 6, 7, 8, 9, 10, 11, 12, 13, 14, 15, 16, 17, 18, 19, 20, 21, 22, 23, 24] [] (by kernel_rfl) (by kernel_rfl) ?_; refine rn F ?_))
    all_goals first
      | (exfalso; omega)
      | exact vpostG_gc ⟨95, 3, [(4, .ptr 3 0)], [scB c 1 2, scT (Sc.tx c), scR (Sc.rd c), ⟨139, true, Rs.d (failR 16)⟩]⟩ (gc [0, 1, 2, 4]) ⟨c, failR 16, _, rfl, rfl, .inl ⟨hq0 _, rfl⟩⟩
      | skip
  obtain ⟨i, hi, ht⟩ := h0
  have hg := cellsI_get c.tx i hi
  have d1 := rido_w c.s hc.1 (c.tx.getD i 0) t.a
  have e1 : (↑i + 1 - 1 : Int) = ↑i := by omega
  have hlt : (i < c.tx.length) = True := eq_true hi
  (unfold Tryz.f81; refine rn trivial ?_)
  simp only [ht]
  have F := (And.intro @hg (And.intro @e1 @hlt))
  refine rn F ?_
  repeat' (first
    | with_reducible exact ⟨⟩
    | (refine sG F ?_ ?_ <;> intro hZ)
    | (refine sB F ?_ ?_ <;> intro hZ)
    | refine vp F (c1) ?_
    | (refine vc_S (d1) rfl ?_; rintro ⟨s2, r2⟩ hq; refine rn F ?_)
    | refine vp F (rlLast_v s2.k.lg (Nat.le_trans hq.1.1.1 (by decide))) ?_
    | (refine vspine (id := 1) [0, 1, 2, 3, 4, 5, 6, 7, 8, 9, 10, 11, 12, 13, 14, 15, 16, 17, 18, 19, 20, 21, 22, 23, 24] [] (by kernel_rfl) (by kernel_rfl) ?_; refine rn F ?_)
    | (refine vspine (id := 3) [0, 1, 2, 3, 4, 5, 6, 7, 8] [⟨[], [], 9, [], []⟩] (by kernel_rfl) (by kernel_rfl) ?_; refine rn F ?_)
    | (refine vspine (id := 4) [0, 1, 2, 3, 4, 5, 6] [⟨[11, 12], [], 7, [0, 1, 2, 5], [8, 9, 10]⟩, ⟨[11, 12], [11], 13, [10], []⟩, ⟨[12], [12], 14, [], []⟩] (by kernel_rfl) (by kernel_rfl) ?_; refine rn F ?_)
    | (refine vspine (id := 9) [0, 1, 2, 3, 4, 5, 6, 7, 8, 9, 10, 11, 12, 13, 14, 16, 17] [⟨[], [], 15, [0, 1, 2, 3, 4, 5, 6, 7, 8, 9, 10, 11, 12, 13, 16, 17], [18]⟩, ⟨[19], [19], 20, [0, 1, 2, 3, 5, 6, 7, 8, 9, 10, 11, 12, 13, 14, 16, 17, 18], [21, 22]⟩, ⟨[], [], 23, [21], []⟩] (by kernel_rfl) (by kernel_rfl) ?_; refine rn F ?_))
  all_goals first
    | exact vpostG_gc ⟨95, 3, [(4, .ptr 3 0)], [scB c 1 2, scT (Sc.tx c), scR (Sc.rd c), ⟨139, true, Rs.d (failR 16)⟩]⟩ (gc [0, 1, 2, 4]) ⟨c, failR 16, _, rfl, rfl, .inl ⟨hq0 _, rfl⟩⟩
    | exact vpostG_gc ⟨95, 3, [(4, .ptr 3 0)], [scB c 1 2, scT (Sc.tx c), scR (Sc.rd c), ⟨139, true, Rs.d (r2)⟩]⟩ (gc [0, 1, 2, 4]) ⟨c, r2, _, rfl, rfl, .inl ⟨hq0 _, rfl⟩⟩
    | exact vpostG_gc ⟨95, 3, [(4, .ptr 3 0)], [scB ⟨s2, c.tx, c.rd, c.dead⟩ 1 2, scT (Sc.tx ⟨s2, c.tx, c.rd, c.dead⟩), scR (Sc.rd ⟨s2, c.tx, c.rd, c.dead⟩), ⟨139, true, Rs.d (r2)⟩]⟩ (gc [0, 1, 2, 4]) ⟨⟨s2, c.tx, c.rd, c.dead⟩, r2, _, rfl, rfl, .inl ⟨⟨by decide, ⟨hq.1, by dsimp only; omega, by dsimp only; omega⟩, rfl, hq.2⟩, rfl⟩⟩
    | skip
  have hl : (c.rd ++ [(⟨c.tx.getD i 0, t.a.pg, t.a.sl, lastS s2.k.lg, r2.cell⟩ : Rd)]).length = c.rd.length + 1 := by simp
  generalize hr : c.rd ++ [(⟨c.tx.getD i 0, t.a.pg, t.a.sl, lastS s2.k.lg, r2.cell⟩ : Rd)] = rd at *
  rw [← hl]
  exact vpostG_gc ⟨95, 3, [(4, .ptr 4 0)], [scB ⟨s2, c.tx, rd, c.dead⟩ 1 3, scT c.tx, deadO, scR rd, ⟨139, true, r2.d⟩]⟩ (gc [0, 1, 2, 8, 4]) ⟨⟨s2, c.tx, rd, c.dead⟩, r2, _, rfl, rfl, .inr (.inr ⟨⟨by decide, ⟨hq.1, by dsimp only; omega, by dsimp only; omega⟩, rfl, hq.2⟩, rfl⟩)⟩
end
section
attribute [local go_sem] iteLe
def scI (I : Lg → Prop) (c : Sc) (n _ : Nat) (c' : Sc) (_ : Rs) : Prop := c'.sm n ∧ (I c.s.k.lg → I c'.s.k.lg)
theorem scI_same (I : Lg → Prop) (c : Sc) (n : Nat) (hc : c.sm n) (r : Rs) : scI I c (n + 1) 0 c r := ⟨⟨hc.1, Nat.le_succ_of_le hc.2.1, Nat.le_succ_of_le hc.2.2⟩, id⟩
abbrev StepC (I : Lg → Prop) (c : Sc) (n : Nat) (t : Sp) : Prop := VCalls prog 72 [.ptr 0 0, .agg t.d] [scB c 1 2, scT c.tx, scR c.rd] (ScEnd rsD (scI I c (n + 1)))
theorem keepS (I : Lg → Prop) (hI : ∀ x y, Ev x y → I x → I y) {s s2 : Sv} {e : Int} (hs : s.sm) (hq : s2.sm ∧ (e = 0 → Ev s.k.lg s2.k.lg)) : (if e = 0 then s2 else s).sm ∧ (I s.k.lg → I (if e = 0 then s2 else s).k.lg) := by
  split
  · rename_i h; exact ⟨hq.1, hI _ _ (hq.2 h)⟩
  · exact ⟨hs, id⟩
theorem rstep3_w (I : Lg → Prop) (hI : ∀ x y, Ev x y → I x → I y) (c : Sc) (n : Nat) (hn : n ≤ 2000) (hc : c.sm n) (t : Sp) (ht : t.kind = 3) : StepC I c n t := by
  refine vcalls_keepg (fn := Tryz.f72) Tryz.func72 rfl (by kernel_rfl) (by simp [Tryz.f72]) ?_
  obtain ⟨k, tx, pg, torn, cut, a⟩ := t
  dsimp only at ht
  subst ht
  have c1 := rsflush_w c.s hc.1 pg
  (unfold Tryz.f72; refine rn trivial ?_)
  refine rn F ?_
  repeat' (first
    | with_reducible exact ⟨⟩
    | (refine vc_S (c1) rfl ?_; rintro ⟨s2, e2⟩ hq; refine rn F ?_)
    | (refine vspineT (id := 12) [[], [], [1], [1, 2], [1, 2, 3], [], [5], [1, 2, 3, 4, 5, 6], [1, 2, 3, 4, 5, 6, 7], [1, 2, 3, 4, 5, 6, 7], [0, 1, 2, 3, 4, 5, 6, 7, 8, 9], [0, 1, 2, 3, 4, 5, 6, 7, 8, 9, 10]] [0, 1, 2, 3, 4, 5, 6] [⟨[], [], 7, [0], [8, 9]⟩, ⟨[], [], 10, [], []⟩, ⟨[], [], 11, [], []⟩] (by kernel_rfl) (by kernel_rfl) (by kernel_rfl) ?_; refine rn F ?_))
  refine vc_sc (c := c) 0 1 2 (rkeep_w c s2 e2) rfl rfl rfl (by decide) (by decide) (by decide) rfl rfl ?_ (fun _ _ h => absurd h.1 (by decide)) (fun _ _ h => absurd h.1 (by decide))
  rintro _ _ ⟨-, rfl, rfl⟩ B
  obtain ⟨k1, k2⟩ := keepS I hI hc.1 hq
  generalize (if e2 = 0 then s2 else c.s) = s' at *
  refine rn trivial ?_
  exact vpostG_gc ⟨132, 3, [(4, .ptr 3 0)], [scB ⟨s', c.tx, c.rd, c.dead⟩ 1 2, scT (Sc.tx ⟨s', c.tx, c.rd, c.dead⟩), scR (Sc.rd ⟨s', c.tx, c.rd, c.dead⟩), ⟨139, true, Rs.d (resR e2)⟩]⟩ (gc [0, 1, 2, 4]) ⟨⟨s', c.tx, c.rd, c.dead⟩, resR e2, _, rfl, rfl, .inl ⟨⟨⟨k1, Nat.le_succ_of_le hc.2.1, Nat.le_succ_of_le hc.2.2⟩, k2⟩, rfl⟩⟩
theorem rstep4_w (I : Lg → Prop) (hI : ∀ x y, Ev x y → I x → I y) (c : Sc) (n : Nat) (hn : n ≤ 2000) (hc : c.sm n) (t : Sp) (ht : t.kind = 4) : StepC I c n t := by
  refine vcalls_keepg (fn := Tryz.f72) Tryz.func72 rfl (by kernel_rfl) (by simp [Tryz.f72]) ?_
  obtain ⟨k, tx, pg, torn, cut, a⟩ := t
  dsimp only at ht
  subst ht
  have c1 := rscheck_w c.s hc.1
  (unfold Tryz.f72; refine rn trivial ?_)
  refine rn F ?_
  repeat' (first
    | with_reducible exact ⟨⟩
    | (refine vc_S (c1) rfl ?_; rintro ⟨s2, n2, e2⟩ hq; refine rn F ?_))
  refine vc_sc (c := c) 0 1 2 (rkeep_w c s2 e2) rfl rfl rfl (by decide) (by decide) (by decide) rfl rfl ?_ (fun _ _ h => absurd h.1 (by decide)) (fun _ _ h => absurd h.1 (by decide))
  rintro _ _ ⟨-, rfl, rfl⟩ B
  obtain ⟨k1, k2⟩ := keepS I hI hc.1 hq
  generalize (if e2 = 0 then s2 else c.s) = s' at *
  refine rn trivial ?_
  exact vpostG_gc ⟨132, 3, [(4, .ptr 3 0)], [scB ⟨s', c.tx, c.rd, c.dead⟩ 1 2, scT (Sc.tx ⟨s', c.tx, c.rd, c.dead⟩), scR (Sc.rd ⟨s', c.tx, c.rd, c.dead⟩), ⟨139, true, Rs.d (resR e2)⟩]⟩ (gc [0, 1, 2, 4]) ⟨⟨s', c.tx, c.rd, c.dead⟩, resR e2, _, rfl, rfl, .inl ⟨⟨⟨k1, Nat.le_succ_of_le hc.2.1, Nat.le_succ_of_le hc.2.2⟩, k2⟩, rfl⟩⟩
theorem rstep7_w (I : Lg → Prop) (hI : ∀ x y, Ev x y → I x → I y) (c : Sc) (n : Nat) (hn : n ≤ 2000) (hc : c.sm n) (t : Sp) (ht : t.kind = 7) : StepC I c n t := by
  refine vcalls_keepg (fn := Tryz.f72) Tryz.func72 rfl (by kernel_rfl) (by simp [Tryz.f72]) ?_
  obtain ⟨k, tx, pg, torn, cut, a⟩ := t
  dsimp only at ht
  subst ht
  have c1 := rwork_w c.s hc.1
  (unfold Tryz.f72; refine rn trivial ?_)
  refine rn F ?_
  repeat' (first
    | with_reducible exact ⟨⟩
    | (refine vc_S (c1) rfl ?_; rintro ⟨s2, n2, e2⟩ hq; refine rn F ?_))
  refine vc_sc (c := c) 0 1 2 (rkeep_w c s2 e2) rfl rfl rfl (by decide) (by decide) (by decide) rfl rfl ?_ (fun _ _ h => absurd h.1 (by decide)) (fun _ _ h => absurd h.1 (by decide))
  rintro _ _ ⟨-, rfl, rfl⟩ B
  obtain ⟨k1, k2⟩ := keepS I hI hc.1 hq
  generalize (if e2 = 0 then s2 else c.s) = s' at *
  refine rn trivial ?_
  exact vpostG_gc ⟨132, 3, [(4, .ptr 3 0)], [scB ⟨s', c.tx, c.rd, c.dead⟩ 1 2, scT (Sc.tx ⟨s', c.tx, c.rd, c.dead⟩), scR (Sc.rd ⟨s', c.tx, c.rd, c.dead⟩), ⟨139, true, Rs.d (resR e2)⟩]⟩ (gc [0, 1, 2, 4]) ⟨⟨s', c.tx, c.rd, c.dead⟩, resR e2, _, rfl, rfl, .inl ⟨⟨⟨k1, Nat.le_succ_of_le hc.2.1, Nat.le_succ_of_le hc.2.2⟩, k2⟩, rfl⟩⟩
theorem rstep5_w (I : Lg → Prop) (hI : ∀ x y, Ev x y → I x → I y) (c : Sc) (n : Nat) (hn : n ≤ 2000) (hc : c.sm n) (t : Sp) (ht : t.kind = 5) : StepC I c n t := by
  refine vcalls_keepg (fn := Tryz.f72) Tryz.func72 rfl (by kernel_rfl) (by simp [Tryz.f72]) ?_
  obtain ⟨k, tx, pg, torn, cut, a⟩ := t
  dsimp only at ht
  subst ht
  have c1 := rlLast_v c.s.k.lg (Nat.le_trans hc.1.1.1 (by decide))
  have c2 := rforce_v c.s.k.lg (Nat.le_trans hc.1.1.1 (by decide)) (lastS c.s.k.lg)
  have c3 := fun e => rresult_v e
  (unfold Tryz.f72; refine rn trivial ?_)
  refine rn F ?_
  repeat' (first
    | with_reducible exact ⟨⟩
    | (refine sB F ?_ ?_ <;> intro hZ)
    | refine vp F (c1) ?_
    | refine vp F (c2) ?_
    | refine vp F (c3 _) ?_
    | (refine vspineT (id := 17) [[], [0], [0, 1], [0, 1, 2], [0, 1, 2, 3], [0, 1, 2, 3, 4], [], [6], [6, 7], [6, 7, 8], [6, 7, 8, 9], [6, 7, 8, 9, 10], [6, 7, 8, 9, 10, 11], [0, 1, 2, 3, 4, 5, 6, 7, 8, 9, 10, 11, 12], [0, 1, 2, 3, 4, 5, 6, 7, 8, 9, 10, 11, 12, 13], [0, 1, 2, 3, 4, 5, 6, 7, 8, 9, 10, 11, 12, 13, 14], [0, 1, 2, 3, 4, 5, 6, 7, 8, 9, 10, 11, 12, 13, 14], [], [0, 1, 2, 3, 4, 5, 6, 7, 8, 9, 10, 11, 12, 13, 14, 15, 17], [0, 1, 2, 3, 4, 5, 6, 7, 8, 9, 10, 11, 12, 13, 14, 15, 16, 17, 18]] [0, 1, 2, 3, 4, 5, 6, 7, 8, 9, 10, 11] [⟨[17], [], 12, [0, 1, 2, 3, 4, 5], []⟩, ⟨[17], [], 13, [], [14, 15, 16]⟩, ⟨[17], [17], 18, [16], []⟩, ⟨[], [], 19, [], []⟩] (by kernel_rfl) (by kernel_rfl) (by kernel_rfl) ?_; refine rn F ?_))
  · exact vpostG_gc ⟨132, 3, [(4, .ptr 3 0)], [scB ⟨⟨⟨c.s.k.pg, c.s.k.nx, (forceS c.s.k.lg (lastS c.s.k.lg)).1, c.s.k.pl, c.s.k.lk, c.s.k.tx, c.s.k.ix, c.s.k.la⟩, c.s.v⟩, c.tx, c.rd, c.dead⟩ 1 2, scT (Sc.tx ⟨⟨⟨c.s.k.pg, c.s.k.nx, (forceS c.s.k.lg (lastS c.s.k.lg)).1, c.s.k.pl, c.s.k.lk, c.s.k.tx, c.s.k.ix, c.s.k.la⟩, c.s.v⟩, c.tx, c.rd, c.dead⟩), scR (Sc.rd ⟨⟨⟨c.s.k.pg, c.s.k.nx, (forceS c.s.k.lg (lastS c.s.k.lg)).1, c.s.k.pl, c.s.k.lk, c.s.k.tx, c.s.k.ix, c.s.k.la⟩, c.s.v⟩, c.tx, c.rd, c.dead⟩), ⟨139, true, Rs.d (resR _)⟩]⟩ (gc [0, 1, 2, 4]) ⟨⟨⟨⟨c.s.k.pg, c.s.k.nx, (forceS c.s.k.lg (lastS c.s.k.lg)).1, c.s.k.pl, c.s.k.lk, c.s.k.tx, c.s.k.ix, c.s.k.la⟩, c.s.v⟩, c.tx, c.rd, c.dead⟩, resR _, _, rfl, rfl, .inl ⟨⟨⟨⟨⟨forceS_len _ _ hc.1.1.1, hc.1.1.2⟩, hc.1.2⟩, Nat.le_succ_of_le hc.2.1, Nat.le_succ_of_le hc.2.2⟩, hI _ _ (forceS_ev (by assumption))⟩, rfl⟩⟩
  · exact vpostG_gc ⟨132, 3, [(4, .ptr 3 0)], [scB c 1 2, scT (Sc.tx c), scR (Sc.rd c), ⟨139, true, Rs.d (resR _)⟩]⟩ (gc [0, 1, 2, 4]) ⟨c, resR _, _, rfl, rfl, .inl ⟨scI_same I c n hc _, rfl⟩⟩
theorem rstep2_w (I : Lg → Prop) (hI : ∀ x y, Ev x y → I x → I y) (c : Sc) (n : Nat) (hn : n ≤ 2000) (hc : c.sm n) (t : Sp) (ht : t.kind = 2) : StepC I c n t := by
  refine vcalls_keepg (fn := Tryz.f72) Tryz.func72 rfl (by kernel_rfl) (by simp [Tryz.f72]) ?_
  obtain ⟨k, tx, pg, torn, cut, a⟩ := t
  dsimp only at ht
  subst ht
  (unfold Tryz.f72; refine rn trivial ?_)
  refine vc_sc (c := c) 0 1 2 (ract_w c n hn hc ⟨2, tx, pg, torn, cut, a⟩) rfl rfl rfl (by decide) (by decide) (by decide) rfl rfl ?_ (fun _ _ h => absurd rfl h.1) ?_
  · rintro c1 r1 ⟨-, q1, -, q2⟩ B
    refine rn trivial ?_
    exact vpostG_gc ⟨132, 3, [(4, .ptr 3 0)], [scB c1 1 2, scT (Sc.tx c1), scR (Sc.rd c1), ⟨139, true, Rs.d (r1)⟩]⟩ (gc [0, 1, 2, 4]) ⟨c1, r1, _, rfl, rfl, .inl ⟨⟨q1, hI _ _ q2⟩, rfl⟩⟩
  · rintro c1 r1 ⟨-, q1, -, q2⟩ B
    refine rn trivial ?_
    exact vpostG_gc ⟨132, 3, [(4, .ptr 4 0)], [scB c1 1 3, scT c1.tx, deadO, scR c1.rd, ⟨139, true, r1.d⟩]⟩ (gc [0, 1, 2, 5, 4]) ⟨c1, r1, _, rfl, rfl, .inr (.inr ⟨⟨q1, hI _ _ q2⟩, rfl⟩)⟩
theorem rstep1_w (I : Lg → Prop) (hI : ∀ x y, Ev x y → I x → I y) (c : Sc) (n : Nat) (hn : n ≤ 2000) (hc : c.sm n) (t : Sp) (ht : t.kind = 1) : StepC I c n t := by
  refine vcalls_keepg (fn := Tryz.f72) Tryz.func72 rfl (by kernel_rfl) (by simp [Tryz.f72]) ?_
  obtain ⟨k, tx, pg, torn, cut, a⟩ := t
  dsimp only at ht
  subst ht
  have c1 := rsbegin_w c.s hc.1
  (unfold Tryz.f72; refine rn trivial ?_)
  have hb : (c.tx.length + 1) * 8 ≤ 140737488355328 := by have := hc.2.1; omega
  have F := @hb
  refine rn F ?_
  repeat' (first
    | with_reducible exact ⟨⟩
    | (refine sB F ?_ ?_ <;> intro hZ)
    | (refine vc_S (c1) rfl ?_; rintro ⟨s2, n2, e2⟩ hq; refine rn F ?_))
  rotate_left
  · refine vc_sc (c := c) 0 1 2 (rkeep_w c s2 e2) rfl rfl rfl (by decide) (by decide) (by decide) rfl rfl ?_ (fun _ _ h => absurd h.1 (by decide)) (fun _ _ h => absurd h.1 (by decide))
    rintro _ _ ⟨-, rfl, rfl⟩ B
    obtain ⟨k1, k2⟩ := keepS I hI hc.1 hq
    generalize (if e2 = 0 then s2 else c.s) = s' at *
    refine rn trivial ?_
    exact vpostG_gc ⟨132, 3, [(4, .ptr 3 0)], [scB ⟨s', c.tx, c.rd, c.dead⟩ 1 2, scT (Sc.tx ⟨s', c.tx, c.rd, c.dead⟩), scR (Sc.rd ⟨s', c.tx, c.rd, c.dead⟩), ⟨139, true, Rs.d ({ resR e2 with tx := n2 })⟩]⟩ (gc [0, 1, 2, 4]) ⟨⟨s', c.tx, c.rd, c.dead⟩, { resR e2 with tx := n2 }, _, rfl, rfl, .inl ⟨⟨⟨k1, Nat.le_succ_of_le hc.2.1, Nat.le_succ_of_le hc.2.2⟩, k2⟩, rfl⟩⟩
  have hl : (c.tx ++ [n2]).length = c.tx.length + 1 := by simp
  generalize c.tx ++ [n2] = l at *
  rw [← hl]
  refine vc_sc (c := ⟨c.s, l, c.rd, c.dead⟩) 0 7 2 (rkeep_w ⟨c.s, l, c.rd, c.dead⟩ s2 e2) rfl rfl rfl (by decide) (by decide) (by decide) rfl rfl ?_ (fun _ _ h => absurd h.1 (by decide)) (fun _ _ h => absurd h.1 (by decide))
  rintro _ _ ⟨-, rfl, rfl⟩ B
  obtain ⟨k1, k2⟩ := keepS I hI hc.1 hq
  generalize (if e2 = 0 then s2 else c.s) = s' at *
  have h1 := hc.2.1
  refine rn trivial ?_
  exact vpostG_gc ⟨132, 3, [(4, .ptr 4 0)], [scB ⟨s', l, c.rd, c.dead⟩ 3 2, deadI, scR c.rd, scT l, ⟨139, true, Rs.d { resR e2 with tx := n2 }⟩]⟩ (gc [0, 1, 2, 7, 4]) ⟨⟨s', l, c.rd, c.dead⟩, { resR e2 with tx := n2 }, _, rfl, rfl, .inr (.inl ⟨⟨⟨k1, by dsimp only; omega, Nat.le_succ_of_le hc.2.2⟩, k2⟩, rfl⟩)⟩
end
section
attribute [local go_sem] iteLe
theorem rstepO_w (I : Lg → Prop) (c : Sc) (n : Nat) (hc : c.sm n) (t : Sp) (h1 : t.kind ≠ 1) (h2 : t.kind ≠ 2) (h3 : t.kind ≠ 3) (h4 : t.kind ≠ 4) (h5 : t.kind ≠ 5) (h6 : t.kind ≠ 6) (h7 : t.kind ≠ 7) : StepC I c n t := by
  refine vcalls_keepg (fn := Tryz.f72) Tryz.func72 rfl (by kernel_rfl) (by simp [Tryz.f72]) ?_
  have c1 := failed_v 1
  (unfold Tryz.f72; refine rn (And.intro @h1 (And.intro @h2 (And.intro @h3 (And.intro @h4 (And.intro @h5 (And.intro @h6 @h7)))))) ?_)
  have F := (And.intro @h1 (And.intro @h2 (And.intro @h3 (And.intro @h4 (And.intro @h5 (And.intro @h6 @h7))))))
  refine rn F ?_
  repeat' (first
    | with_reducible exact ⟨⟩
    | refine vp F (c1) ?_)
  exact vpostG_gc ⟨132, 3, [(4, .ptr 3 0)], [scB c 1 2, scT (Sc.tx c), scR (Sc.rd c), ⟨139, true, Rs.d (failR 1)⟩]⟩ (gc [0, 1, 2, 4]) ⟨c, failR 1, _, rfl, rfl, .inl ⟨scI_same I c n hc _, rfl⟩⟩
theorem rstepA_w (I : Lg → Prop) (hI : ∀ x y, Ev x y → I x → I y) (c : Sc) (n : Nat) (hn : n ≤ 2000) (hc : c.sm n) (t : Sp) (h6 : t.kind = 6 → StepC I c n t) : StepC I c n t := by
  by_cases q1 : t.kind = 1
  · exact rstep1_w I hI c n hn hc t q1
  by_cases q2 : t.kind = 2
  · exact rstep2_w I hI c n hn hc t q2
  by_cases q3 : t.kind = 3
  · exact rstep3_w I hI c n hn hc t q3
  by_cases q4 : t.kind = 4
  · exact rstep4_w I hI c n hn hc t q4
  by_cases q5 : t.kind = 5
  · exact rstep5_w I hI c n hn hc t q5
  by_cases q6 : t.kind = 6
  · exact h6 q6
  by_cases q7 : t.kind = 7
  · exact rstep7_w I hI c n hn hc t q7
  exact rstepO_w I c n hc t q1 q2 q3 q4 q5 q6 q7
def encV : Enc Sp := ⟨9, fun t => [.lit (.int .i64 t.kind), .lit (.int .i64 t.tx), .lit (.int .i64 t.pg), .lit (.int .i64 t.torn), .lit (.int .i64 t.cut), .lit (.int .i64 t.a.kind), .lit (.int .i64 t.a.pg), .lit (.int .i64 t.a.sl), .str t.a.data], by decide, fun _ => rfl⟩
theorem lenV (l : List Sp) : (cells encV l).length = l.length * 9 := cells_len encV l
theorem allV (l : List Sp) (n : Nat) (h : l.length * 9 ≤ n) : (cells encV l).take n = cells encV l := by rw [List.take_of_length_le]; rw [lenV]; exact h
theorem frzV {n : Nat} {hp : Heap} {len : Nat} {l : List Sp} (h : l.length = len) : frzC n hp 0 9 len (some (cells encV l)) = some (.sl (fz encV l)) := frzC_cells encV h
def Sp0 : Sp := ⟨0, 0, 0, 0, 0, 0, 0, 0, []⟩
theorem fzV_at (l : List Sp) (i : Nat) (h : i < l.length) : (fz encV l)[i]? = some [.lit (.int .i64 (l.getD i Sp0).kind), .lit (.int .i64 (l.getD i Sp0).tx), .lit (.int .i64 (l.getD i Sp0).pg), .lit (.int .i64 (l.getD i Sp0).torn), .lit (.int .i64 (l.getD i Sp0).cut), .lit (.int .i64 (l.getD i Sp0).a.kind), .lit (.int .i64 (l.getD i Sp0).a.pg), .lit (.int .i64 (l.getD i Sp0).a.sl), .str (l.getD i Sp0).a.data] := fz_getD encV l Sp0 i h
attribute [go_sem] lenV allV frzV
def encU2 : Enc Rs := ⟨6, fun r => [.lit (.int .i64 r.st), .lit (.int .i64 r.tx), .lit (.int .i64 r.pg), .lit (.bool r.cell.set), .str r.cell.data, .lit (.int .i64 r.er)], by decide, fun _ => rfl⟩
theorem lenU2 (l : List Rs) : (cells encU2 l).length = l.length * 6 := cells_len encU2 l
theorem allU2 (l : List Rs) (n : Nat) (h : l.length * 6 ≤ n) : (cells encU2 l).take n = cells encU2 l := by rw [List.take_of_length_le]; rw [lenU2]; exact h
theorem frzU2 {n : Nat} {hp : Heap} {len : Nat} {l : List Rs} (h : l.length = len) : frzC n hp 0 6 len (some (cells encU2 l)) = some (.sl (fz encU2 l)) := frzC_cells encU2 h
theorem app_U2 (l : List Rs) (a b c : Int) (x : Bool) (s : List UInt8) (d : Int) : cells encU2 l ++ [.pv (.lit (.int .i64 a)), .pv (.lit (.int .i64 b)), .pv (.lit (.int .i64 c)), .pv (.lit (.bool x)), .pv (.str s), .pv (.lit (.int .i64 d))] = cells encU2 (l ++ [⟨a, b, c, ⟨x, s⟩, d⟩]) := by rw [cells_app]; rfl
attribute [go_sem] lenU2 allU2 frzU2 app_U2
theorem wk_O (l : List Rd) : DV.wk.go (cells encO l) = cells encO l := wk_cells encO l fun a p hp => by
  simp [encO] at hp
  rcases hp with h | h | h | h | h | h <;> subst h <;> rfl
theorem wk_U2 (l : List Rs) : DV.wk.go (cells encU2 l) = cells encU2 l := wk_cells encU2 l fun a p hp => by
  simp [encU2] at hp
  rcases hp with h | h | h | h | h | h <;> subst h <;> rfl
attribute [go_sem] wk_O wk_U2
structure Ru (I : Lg → Prop) (s : Sv) (l : List Sp) where
  i : Nat
  c : Sc
  out : List Rs
  hi : i ≤ l.length
  h1 : i ≤ 1000
  hc : c.sm i
  ho : out.length = i
  hI : I s.k.lg → I c.s.k.lg
@[go_sem] def runD (a : Sv × List Rs × List Rd) : DV := .tup [.agg a.1.d, .pv (.sl (fz encU2 a.2.1)), .pv (.sl (fz encO a.2.2))]
theorem rrun_w (I : Lg → Prop) (hI : ∀ x y, Ev x y → I x → I y) (s : Sv) (hs : s.sm) (l : List Sp) (h6 : ∀ i, i < l.length → (l.getD i Sp0).kind = 6 → ∀ c n, n ≤ 2000 → c.sm n → StepC I c n (l.getD i Sp0)) : VCalls prog 61 [.agg s.d, .pv (.sl (fz encV l))] [] (RetS runD fun a => a.1.sm ∧ (I s.k.lg → I a.1.k.lg)) := by
  refine dk Tryz.func61 ?_
  (unfold Tryz.f61; refine rn trivial ?_)
  refine VLoop.nilOwnC 2 18 3 1 rfl rfl ?_
  refine VLoop.nilOwnC 2 19 165 6 rfl rfl ?_
  refine VLoop.nilOwn 8 139 6 rfl ?_
  refine rn trivial ?_
  refine vloopW (fun r : Ru I s l => ⟨48, 0, [(9, .int .i64 r.i), (8, .own 4 6 0 r.out.length), (7, .ptr 1 0), (4, .ptr 0 0), (1, .pv (.sl (fz encV l)))], [⟨111, true, Zv⟩, scB r.c 2 3, scT r.c.tx, scR r.c.rd, ⟨139, true, cells encU2 r.out⟩]⟩) (fun r => l.length - r.i) ⟨0, ⟨s, [], [], false⟩, [], Nat.zero_le _, by decide, ⟨hs, Nat.zero_le _, Nat.zero_le _⟩, rfl, id⟩ (gc [1, 2, 3, 4, 5]) ?_
  rintro ⟨i, c, out, hi, h1, hc, ho, h⟩
  dsimp only
  unfold Zv
  have hg := fun h : i < l.length => fzV_at l i h
  have hb : (out.length + 1) * 72 ≤ 140737488355328 := by omega
  obtain ⟨sv, tx, rd, dead⟩ := c
  cases dead
  rotate_left
  · skip
    have F := @hg
    refine rn F ?_
    repeat' (first
      | with_reducible exact ⟨⟩
      | (refine sG F ?_ ?_ <;> intro hZ)
      | (refine vspineT (id := 7) [[], [0], [0, 1], [0, 1, 2], [], [], [5], [5, 6], [5, 6, 7], [0, 1, 2, 3], [0, 1, 2, 3, 4, 9], [0, 1, 2, 3, 4, 5, 6, 7, 8, 9, 10]] [0, 1, 2, 3, 4, 5, 6, 7, 8] [⟨[], [], 9, [4, 5, 6, 7, 8], []⟩, ⟨[], [], 10, [5, 6, 7, 8], []⟩, ⟨[], [], 11, [], []⟩] (by kernel_rfl) (by kernel_rfl) (by kernel_rfl) ?_; refine rn F ?_))
    all_goals exact ⟨rfl, rfl, (sv, out, rd), rfl, hc.1, h⟩
  have F := @hg
  refine rn F ?_
  repeat' (first
    | with_reducible exact ⟨⟩
    | (refine sG F ?_ ?_ <;> intro hZ)
    | (refine vspineT (id := 7) [[], [0], [0, 1], [0, 1, 2], [], [], [5], [5, 6], [5, 6, 7], [0, 1, 2, 3], [0, 1, 2, 3, 4, 9], [0, 1, 2, 3, 4, 5, 6, 7, 8, 9, 10]] [0, 1, 2, 3, 4, 5, 6, 7, 8] [⟨[], [], 9, [4, 5, 6, 7, 8], []⟩, ⟨[], [], 10, [5, 6, 7, 8], []⟩, ⟨[], [], 11, [], []⟩] (by kernel_rfl) (by kernel_rfl) (by kernel_rfl) ?_; refine rn F ?_))
  all_goals first | exact ⟨rfl, rfl, (sv, out, rd), rfl, hc.1, h⟩ | skip
  have hil : i < l.length := by omega
  refine vc_sc (c := ⟨sv, tx, rd, false⟩) 1 2 3 (rstepA_w I hI _ i (by omega) hc (l.getD i Sp0) (fun hk => h6 i hil hk _ i (by omega) hc)) rfl rfl rfl (by decide) (by decide) (by decide) rfl rfl ?_ ?_ ?_
  all_goals
    rintro c1 r1 ⟨q1, q2⟩ B
    refine rn @hb ?_
    have hl2 : (out ++ [r1]).length = out.length + 1 := by simp
    refine ⟨⟨i + 1, c1, out ++ [r1], hil, by omega, q1, by rw [hl2]; omega, fun x => q2 (h x)⟩, by dsimp only; omega, ?_⟩
    dsimp only
    rw [hl2]
  · exact (gc [0, 1, 2, 3, 7])
  · exact (gc [0, 1, 5, 3, 8])
  · exact (gc [0, 1, 2, 5, 8])
end
section
attribute [local go_sem] cb cc
theorem kinds_get (i : Nat) (h : i < 12) : ∃ n : Int, ([.pv (.lit (.int .i64 1)), .pv (.lit (.int .i64 1)), .pv (.lit (.int .i64 2)), .pv (.lit (.int .i64 2)), .pv (.lit (.int .i64 2)), .pv (.lit (.int .i64 3)), .pv (.lit (.int .i64 4)), .pv (.lit (.int .i64 5)), .pv (.lit (.int .i64 6)), .pv (.lit (.int .i64 7)), .pv (.lit (.int .i64 2)), .pv (.lit (.int .i64 4))] : List DV)[i]? = some (.int .i64 n) := by
  have e : ([.pv (.lit (.int .i64 1)), .pv (.lit (.int .i64 1)), .pv (.lit (.int .i64 2)), .pv (.lit (.int .i64 2)), .pv (.lit (.int .i64 2)), .pv (.lit (.int .i64 3)), .pv (.lit (.int .i64 4)), .pv (.lit (.int .i64 5)), .pv (.lit (.int .i64 6)), .pv (.lit (.int .i64 7)), .pv (.lit (.int .i64 2)), .pv (.lit (.int .i64 4))] : List DV) = ([1, 1, 2, 2, 2, 3, 4, 5, 6, 7, 2, 4] : List Int).map (DV.int .i64) := rfl
  refine ⟨([1, 1, 2, 2, 2, 3, 4, 5, 6, 7, 2, 4] : List Int)[i]'h, ?_⟩
  rw [e, List.getElem?_map, List.getElem?_eq_getElem h]; rfl
theorem action_v (c : C) (m : Nat) (h1 : 1 ≤ m) (h2 : m ≤ 1000) : VCalls prog 88 [.ptr 0 0, .int .i64 m] [cb c] (CX fun r => ∃ a : Ac, r = .agg a.d) := by
  refine dd Tryz.func88 ?_
  (unfold Tryz.f88; refine rn trivial ?_)
  refine vc_cx (k := 0) (c := c) (next_v c 12 (by omega) (by omega)) rfl rfl ?_
  rintro _ c1 ⟨y, rfl, hy⟩
  obtain ⟨n, hn⟩ := kinds_get y hy
  have F := @hn
  refine rn F ?_
  repeat' (first
    | with_reducible exact ⟨⟩
    | (refine sB F ?_ ?_ <;> intro hZ)
    | (refine vc_cx (k := 0) (next_v _ 2 (by omega) (by omega)) rfl rfl ?_; rintro _ _ ⟨_, rfl, _⟩; refine rn F ?_)
    | (refine vc_cx (k := 0) (next_v _ 40 (by omega) (by omega)) rfl rfl ?_; rintro _ _ ⟨_, rfl, _⟩; refine rn F ?_)
    | (refine vc_cx (k := 0) (next_v _ m (by omega) (by omega)) rfl rfl ?_; rintro _ _ ⟨_, rfl, _⟩; refine rn F ?_)
    | (refine vc_cx (k := 0) (data_v _) rfl rfl ?_; rintro _ _ ⟨_, rfl, _⟩; refine rn F ?_)
    | (refine vc_cx (k := 0) (int_v _) rfl rfl ?_; rintro _ _ ⟨_, rfl, _⟩; refine rn F ?_))
  all_goals first
    | exact ⟨_, rfl, rfl, cc_nums _, rfl, ⟨⟨_, _, _, _⟩, rfl⟩, _, rfl⟩
    | skip
end
section
attribute [local go_sem] cb cc
theorem rdnew0 (n : Int) (h : 1 ≤ n ∧ n ≤ 64) : VCalls prog 71 [.int .i64 n] [] (RetS dvD fun a => dvQ a ∧ a.2 = 0) := by
  refine dk Tryz.func71 ?_
  have c1 := rblanks_w n
  (unfold Tryz.f71; refine rn trivial ?_)
  refine rn F ?_
  repeat' (first
    | with_reducible exact ⟨⟩
    | (refine vc_S (c1 (by omega)) rfl ?_; rintro l hl; refine rn F ?_))
  all_goals first
    | (exfalso; omega)
    | exact ⟨rfl, rfl, (⟨l, 0, false⟩, 0), rfl, hl, rfl⟩
    | skip
theorem rknew0 (n m : Int) (h : 1 ≤ n ∧ n ≤ 64) (h2 : 1 ≤ m ∧ m ≤ 64) : VCalls prog 70 [.int .i64 n, .int .i64 m] [] (RetS kiD fun a => a.1.sm ∧ a.2 = 0 ∧ a.1.lg = Lg1) := by
  refine dk Tryz.func70 ?_
  have c1 := rpnew_v m
  have c2 := rixnew_w n
  have c3 := rlnew_v
  have hf := plNew_fs m
  generalize plNew m = p at *
  (unfold Tryz.f70; refine rn trivial ?_)
  refine rn F ?_
  repeat' (first
    | with_reducible exact ⟨⟩
    | refine vp F (c1) ?_
    | (refine vc_S (c2) rfl ?_; rintro ⟨l, e⟩ hl; refine rn F ?_)
    | refine vp F (c3) ?_
    | (refine vspine (id := 5) [0, 2, 3] [⟨[], [], 1, [0, 2, 3], [4]⟩, ⟨[], [], 5, [], []⟩, ⟨[], [], 6, [], []⟩] (by kernel_rfl) (by kernel_rfl) ?_; refine rn F ?_))
  all_goals first
    | (exfalso; omega)
    | exact ⟨rfl, rfl, (⟨n, 1, Lg1, p.1, Lk0, [], l, []⟩, 0), rfl, ⟨Nat.zero_le _, by dsimp only; rw [hf]; exact Nat.zero_le _, Nat.zero_le _, smN_nil _, hl, Nat.zero_le _⟩, rfl, rfl⟩
    | skip
theorem rsnew0 (n m : Int) (h : 1 ≤ n ∧ n ≤ 64) (h2 : 1 ≤ m ∧ m ≤ 64) : VCalls prog 60 [.int .i64 n, .int .i64 m] [] (RetS svD fun a => a.1.sm ∧ a.2 = 0 ∧ a.1.k.lg = Lg1) := by
  refine dk Tryz.func60 ?_
  have c1 := rknew0 n m h h2
  have c2 := rdnew0 n h
  (unfold Tryz.f60; refine rn trivial ?_)
  refine vc_S c1 rfl ?_
  rintro ⟨k, e⟩ ⟨hk, he, hg⟩
  dsimp only at hk he hg
  subst he
  refine rn trivial ?_
  refine vc_S c2 rfl ?_
  rintro ⟨v, e⟩ ⟨hv, he⟩
  dsimp only at he
  subst he
  refine rn trivial ?_
  exact ⟨rfl, rfl, (⟨k, v⟩, 0), rfl, ⟨hk, hv⟩, rfl, hg⟩
theorem app_V (l : List Sp) (a b c d e f g h : Int) (s : List UInt8) : cells encV l ++ [.pv (.lit (.int .i64 a)), .pv (.lit (.int .i64 b)), .pv (.lit (.int .i64 c)), .pv (.lit (.int .i64 d)), .pv (.lit (.int .i64 e)), .pv (.lit (.int .i64 f)), .pv (.lit (.int .i64 g)), .pv (.lit (.int .i64 h)), .pv (.str s)] = cells encV (l ++ [⟨a, b, c, d, e, ⟨f, g, h, s⟩⟩]) := by rw [cells_app]; rfl
def no6 (l : List Sp) : Prop := ∀ i, i < l.length → (l.getD i Sp0).kind ≠ 6
structure Sd (most : Nat) where
  k : Nat
  c : C
  l : List Sp
  hk : k + l.length ≤ most + 2
  h6 : no6 l
def spB : Sp := ⟨1, 0, 0, 0, 0, ⟨0, 0, 0, []⟩⟩
def LgI (x : Lg) : Prop := lgB x = true ∧ x.f = 1
end
theorem rlkvalidX (t : Lk) (h : 1024 < t.sum) (h2 : t.held.length ≤ 10000000 ∧ t.wait.length ≤ 10000000) : VCalls prog 164 [.agg t.d] [] (Ret (.bool false)) := by
  refine dd Tryz.func164 ?_
  unfold Lk.sum at h
  have h' : (1024 : Int) < t.held.length + t.wait.length := by omega
  (unfold Tryz.f164; refine rn @h' ?_; try with_reducible exact ⟨⟩)
def Kn.smX (k : Kn) : Prop := k.lg.es.length ≤ 4096 ∧ k.pl.fs.length ≤ 64 ∧ smN 65 k.tx ∧ k.ix.length ≤ 64 ∧ k.la.length ≤ 10000
theorem rpartsX (k : Kn) (hk : k.smX) (h : 1024 < k.lk.sum) (hq : k.lk.held.length ≤ 10000000 ∧ k.lk.wait.length ≤ 10000000) : VCalls prog 120 [.agg k.d] [] (Ret (.bool false)) := by
  refine dd Tryz.func120 ?_
  obtain ⟨h1, h2, h4, h5, h6⟩ := hk
  have c1 := rlvalid_v k.lg (by omega)
  have c2 := rplvalid_v k.pl (by omega)
  have c3 := rlkvalidX k.lk h hq
  generalize lgB k.lg = b1 at *
  generalize plB k.pl = b2 at *
  (unfold Tryz.f120; refine rn trivial ?_)
  refine rn F ?_
  repeat' (first
    | with_reducible exact ⟨⟩
    | (refine sG F ?_ ?_ <;> intro hZ)
    | refine vp F (c1) ?_
    | refine vp F (c2) ?_
    | refine vp F (c3) ?_)
  all_goals first | rfl | skip
theorem rkvalidX (k : Kn) (hk : k.smX) (h : 1024 < k.lk.sum) (hq : k.lk.held.length ≤ 10000000 ∧ k.lk.wait.length ≤ 10000000) : VCalls prog 97 [.agg k.d] [] (Ret (.bool false)) := by
  refine dd Tryz.func97 ?_
  have c1 := rpartsX k hk h hq
  (unfold Tryz.f97; refine rn trivial ?_)
  refine rn F ?_
  repeat' (first
    | with_reducible exact ⟨⟩
    | refine vp F (c1) ?_)
  all_goals first | rfl | skip
structure AdS (x : Lg) (n : Nat) where
  i : Nat
  k : Kn
  hi : i ≤ n
  hk : k.sm
  he : Ev x k.lg
theorem radopt_w (x : Lg) (hx : x.es.length ≤ 4096) (a : An) (ha : a.sm 10000) (n : Int) : VCalls prog 163 [.agg x.c, .agg a.d, .int .i64 n] [] (RetS kiD fun r => r.1.sm ∧ (r.2 = 0 → Ev x r.1.lg)) := by
  refine dk Tryz.func163 ?_
  obtain ⟨h1, h2, h3, h4⟩ := ha
  have c1 := rpnew_v n
  have hf := plNew_fs n
  generalize plNew n = p at *
  obtain ⟨p, e0⟩ := p
  dsimp only at c1 hf
  have err : ∀ z, z ≠ 0 → RetS kiD (fun r => r.1.sm ∧ (r.2 = 0 → Ev x r.1.lg)) (kiD (Kn0, z)) [] := fun z hz => ⟨rfl, rfl, (Kn0, z), rfl, Kn0_sm, fun h => absurd h hz⟩
  (unfold Tryz.f163; refine rn trivial ?_)
  refine rn F ?_
  repeat' (first
    | with_reducible exact ⟨⟩
    | (refine sB F ?_ ?_ <;> intro hZ)
    | refine vp F (c1) ?_)
  all_goals first | exact err 1 (by decide) | skip
  by_cases hs : a.lk.length ≤ 1024
  rotate_left
  · have c2 := rkvalidX ⟨a.pg, a.nx, x, p, ⟨a.lk, []⟩, a.lo, a.ix, a.la⟩ ⟨hx, by dsimp only; rw [hf]; exact Nat.zero_le _, h1, h4, h3⟩ (by unfold Lk.sum; simp; omega) ⟨by dsimp only; omega, Nat.zero_le _⟩
    refine rn F ?_
    refine VCalls.wkH ?_; simp only [hpwk_nil, hpwk_cons, wk_go_nil, wk_go_cons, DV.wk, PV.wk, wk_E]
    refine rn F ?_
    repeat' (first
      | with_reducible exact ⟨⟩
      | refine vp F (c2) ?_)
    exact err 15 (by decide)
  have hk0 : (⟨a.pg, a.nx, x, p, ⟨a.lk, []⟩, a.lo, a.ix, a.la⟩ : Kn).sm := ⟨hx, by dsimp only; rw [hf]; exact Nat.zero_le _, by unfold Lk.sum; simp; omega, h1, h4, h3⟩
  have c2 := rkvalid_w ⟨a.pg, a.nx, x, p, ⟨a.lk, []⟩, a.lo, a.ix, a.la⟩ hk0
  refine rn F ?_
  refine VCalls.wkH ?_; simp only [hpwk_nil, hpwk_cons, wk_go_nil, wk_go_cons, DV.wk, PV.wk, wk_E]
  refine rn F ?_
  repeat' (first
    | with_reducible exact ⟨⟩
    | (refine sB F ?_ ?_ <;> intro hZ)
    | (refine vc_S (c2) rfl ?_; rintro b hb; refine rn F ?_))
  all_goals first | exact err 15 (by decide) | skip
  have hlo := h1.1
  refine vloopW (fun s : AdS x a.lo.length => ⟨72, 0, [(11, .int .i64 s.i), (10, .ptr 4 0), (6, .ptr 2 0), (4, .ptr 1 0)], [⟨28, true, x.c⟩, ⟨258, true, a.d⟩, ⟨83, true, Kn.d Kn0⟩, ⟨73, true, p.d⟩, ⟨83, true, s.k.d⟩]⟩) (fun s => a.lo.length - s.i) ⟨0, _, Nat.zero_le _, hk0, Ev.refl _⟩ (gc [0, 1, 2, 3, 4]) ?_
  rintro ⟨i, k, hi, hk, he⟩
  dsimp only
  by_cases hil : i < a.lo.length
  rotate_left
  · skip
    refine rn F ?_
    exact ⟨rfl, rfl, (k, 0), rfl, hk, fun _ => he⟩
  have hg := fzT_g a.lo i hil
  generalize a.lo.getD i Tx0 = t at *
  have c3 := rkadd_w k hk ⟨0, 4, t.id, 0, 0, 0, Ch0, []⟩
  have F := @hg
  refine rn F ?_
  repeat' (first
    | with_reducible exact ⟨⟩
    | (refine sB F ?_ ?_ <;> intro hZ)
    | (refine vc_S (c3) rfl ?_; rintro ⟨k1, n1, e1⟩ hq; refine rn F ?_)
    | (refine vspine (id := 11) [0, 1, 2, 3, 4, 5, 6, 7] [⟨[], [], 8, [1, 2, 3, 4, 5, 6], [9, 10, 11, 12]⟩, ⟨[], [], 13, [11, 12], []⟩, ⟨[], [], 14, [], []⟩] (by kernel_rfl) (by kernel_rfl) ?_; refine rn F ?_))
  all_goals first
    | exact err _ (by assumption)
    | exact ⟨⟨i + 1, k, hil, hk, he⟩, by dsimp only; omega, (gc [0, 1, 2, 3, 4])⟩
    | exact ⟨⟨i + 1, k1, hil, hq.1, he.trans (addQ_ev hq (by assumption)).1⟩, by dsimp only; omega, (gc [0, 1, 2, 3, 4])⟩
    | skip
theorem openL_len (s : List UInt8) : (openL s).1.es.length ≤ 4096 := by
  unfold openL
  split
  · exact opn_len _ _ _ _
  · exact Nat.zero_le _
theorem ropen20_w (v : Dv) (hv : v.ps.length ≤ 64) (s : List UInt8) (hs : s.length ≤ 100000000) (n m : Int) : VCalls prog 119 [.agg v.d, .pv (.str s), .int .i64 n, .int .i64 m] [] (RetS svD fun r => r.1.sm ∧ (r.2 = 0 → (openL s).2 = 0 ∧ Ev (openL s).1 r.1.k.lg)) := by
  refine dk Tryz.func119 ?_
  have c1 := ropen_v s hs
  have hl := openL_len s
  generalize openL s = o at *
  obtain ⟨x, e0⟩ := o
  dsimp only at hl c1 ⊢
  have c2 := ranalyse_w x hl n
  have c3 := fun a ha => radopt_w x hl a ha m
  have err : ∀ z, z ≠ 0 → RetS svD (fun r => r.1.sm ∧ (r.2 = 0 → e0 = 0 ∧ Ev x r.1.k.lg)) (svD (Sv0, z)) [] := fun z hz => ⟨rfl, rfl, (Sv0, z), rfl, Sv0_sm, fun h => absurd h hz⟩
  (unfold Tryz.f119; refine rn trivial ?_)
  refine rn F ?_
  repeat' (first
    | with_reducible exact ⟨⟩
    | (refine sB F ?_ ?_ <;> intro hZ)
    | refine vp F (c1) ?_
    | (refine vc_S (c2) rfl ?_; rintro ⟨a, e1⟩ ha; refine rn F ?_)
    | (refine vc_S (c3 a ha) rfl ?_; rintro ⟨k, e2⟩ hk; refine rn F ?_))
  all_goals first
    | exact err _ (by assumption)
    | exact ⟨rfl, rfl, (⟨k, v⟩, 0), rfl, ⟨hk.1, hv⟩, fun _ => ⟨by assumption, hk.2 (by assumption)⟩⟩
    | skip
theorem ropen21_w (v : Dv) (hv : v.ps.length ≤ 64) (s : List UInt8) (hs : s.length ≤ 100000000) (n m : Int) : VCalls prog 96 [.agg v.d, .pv (.str s), .int .i64 n, .int .i64 m] [] (RetS svD fun r => r.1.sm ∧ (r.2 = 0 → (openL s).2 = 0 ∧ Ev (openL s).1 r.1.k.lg)) := by
  refine dk Tryz.func96 ?_
  have c1 := ropen20_w v hv s hs n m
  generalize openL s = o at *
  (unfold Tryz.f96; refine rn trivial ?_)
  refine rn F ?_
  repeat' (first
    | with_reducible exact ⟨⟩
    | (refine vc_S (c1) rfl ?_; rintro ⟨k, e⟩ hk; refine rn F ?_))
  all_goals first
    | exact ⟨rfl, rfl, (k, e), rfl, hk⟩
    | skip
section
attribute [local go_sem] iteLe
@[go_sem] def crD (a : Dv × Lg × Int) : DV := .tup [.agg a.1.d, .pv (.str (crashL a.2.1 a.2.2))]
def crQ (s : Sv) (a : Dv × Lg × Int) : Prop := a.1.ps.length ≤ 64 ∧ a.2.1.f = s.k.lg.f ∧ a.2.1.es = s.k.lg.es ∧ (lgB s.k.lg = true → lgB a.2.1 = true)
theorem rscrash_w (s : Sv) (hs : s.sm) (torn id cut : Int) : VCalls prog 95 [.agg s.d, .int .i64 torn, .int .i64 id, .int .i64 cut] [] (RetS crD (crQ s)) := by
  refine dk Tryz.func95 ?_
  have c1 := rpfind_v s.k.pl (Nat.le_trans hs.1.2.1 (by decide)) id
  have hl := hs.1.1
  have c2 := rcrash_v s.k.lg (by omega) torn
  have c3 := fun d => rcrash_v ⟨s.k.lg.f, s.k.lg.es, d⟩ (by dsimp only; omega) torn
  have h0 : crQ s (s.v, s.k.lg, torn) := ⟨hs.2, rfl, rfl, fun h => h⟩
  (unfold Tryz.f95; refine rn trivial ?_)
  refine rn F ?_
  repeat' (first
    | with_reducible exact ⟨⟩
    | (refine vspine (id := 1) [0, 1, 2, 3] [⟨[4, 5], [4], 6, [2, 3], []⟩, ⟨[5], [5], 7, [], []⟩] (by kernel_rfl) (by kernel_rfl) ?_; refine rn F ?_))
  refine vp hl c1 ?_
  rcases findS_cases s.k.pl id with hn | ⟨_, i, hi, hfi, _⟩
  · rw [hn]
    refine rn @hl ?_
    refine rn F ?_
    repeat' (first
      | with_reducible exact ⟨⟩
      | refine vp F (c2) ?_
      | (refine vspine (id := 9) [0, 1, 2, 3] [⟨[], [], 4, [0, 1], []⟩, ⟨[], [], 5, [1, 2, 3], []⟩, ⟨[], [], 6, [], []⟩] (by kernel_rfl) (by kernel_rfl) ?_; refine rn F ?_))
    exact ⟨rfl, rfl, (s.v, s.k.lg, torn), rfl, h0⟩
  · rw [hfi]
    have hg := fzF_at s.k.pl.fs i hi
    generalize s.k.pl.fs.getD i Fm0 = f at *
    have c4 := rpenc_w f.pg
    have c5 := rkforce_w s.k hs.1 f.pg.lsn
    refine rn @hg ?_
    have c6 := fun b (hb : b.length ≤ 256) => rtear_w s.v (Nat.le_trans hs.2 (by decide)) id b (Nat.le_trans hb (by decide)) cut
    have F := @hg
    refine rn F ?_
    repeat' (first
      | with_reducible exact ⟨⟩
      | (refine sB F ?_ ?_ <;> intro hZ)
      | refine vp F (c2) ?_
      | (refine vc_S (c4) rfl ?_; rintro ⟨b, e1⟩ hb; refine rn F ?_)
      | (refine vc_S (c5) rfl ?_; rintro d hd; refine rn F ?_)
      | (refine vc_S (c6 b hb) rfl ?_; rintro ⟨v2, e2⟩ hv; refine rn F ?_)
      | refine vp F (c3 d) ?_
      | (refine vspine (id := 5) [0, 1, 2, 3, 4, 5, 6, 7, 8] [⟨[], [], 9, [1, 2, 3, 4, 5, 6, 7], []⟩, ⟨[], [], 10, [], []⟩] (by kernel_rfl) (by kernel_rfl) ?_; refine rn F ?_)
      | (refine vspine (id := 9) [0, 1, 2, 3] [⟨[], [], 4, [0, 1], []⟩, ⟨[], [], 5, [1, 2, 3], []⟩, ⟨[], [], 6, [], []⟩] (by kernel_rfl) (by kernel_rfl) ?_; refine rn F ?_))
    all_goals first
      | exact ⟨rfl, rfl, (s.v, s.k.lg, torn), rfl, h0⟩
      | exact ⟨rfl, rfl, (v2, ⟨s.k.lg.f, s.k.lg.es, d⟩, torn), rfl, hv, rfl, rfl, hd⟩
      | exact ⟨rfl, rfl, (s.v, ⟨s.k.lg.f, s.k.lg.es, d⟩, torn), rfl, hs.2, rfl, rfl, hd⟩
      | skip
end
section
attribute [local go_sem] iteLe
theorem crash_lgI {x y : Lg} {t : Int} (hx : LgI x) (hf : y.f = x.f) (hv : lgB y = true) {z : Lg} (he : Ev (openL (crashL y t)).1 z) : LgI z := by
  obtain ⟨n, h1, h2, h3⟩ := crash_open hv t
  rw [h3] at he
  have hd := lgB_hd hv
  simp only [Lg.hd] at hd
  have hl : (y.es.take n).length = n := by rw [List.length_take]; omega
  refine ⟨he.ok (lgB_of (x := ⟨y.f, y.es.take n, y.f + n - 1⟩) ⟨hd.1, hd.2.1, by dsimp only; omega, by dsimp only; omega, by dsimp only; omega⟩ (show seqE y.f (y.es.take n) from seqE_take (lgB_seq hv) n)), he.f.trans (hf.trans hx.2)⟩
theorem crashL_le {x : Lg} (hx : x.es.length ≤ 4096) (t : Int) : (crashL x t).length ≤ 100000000 := by
  have h9 := headL_len x.f
  have h8 := durB_len x.es x.d
  have h7 := resB_len x.es x.d
  unfold crashL
  split
  · rw [List.length_append, List.length_append, List.length_take]
    omega
  · exact Nat.zero_le _
structure Tz (n : Nat) where
  i : Nat
  l : List Int
  hi : i ≤ n
  hl : l.length = n
def crI (c : Sc) (n m : Nat) (c' : Sc) (_ : Rs) : Prop := m = 0 ∧ c'.sm n ∧ (LgI c.s.k.lg → LgI c'.s.k.lg)
theorem rcrashS_w (c : Sc) (n : Nat) (hn : n ≤ 2000) (hc : c.sm n) (t : Sp) : VCalls prog 85 [.ptr 0 0, .agg t.d] [scB c 1 2, scT c.tx, scR c.rd] (ScEnd rsD (crI c n)) := by
  refine vcalls_keepg (fn := Tryz.f85) Tryz.func85 rfl (by kernel_rfl) (by simp [Tryz.f85]) ?_
  have c1 := rscrash_w c.s hc.1 t.torn t.pg t.cut
  (unfold Tryz.f85; refine rn trivial ?_)
  refine rn F ?_
  repeat' (first
    | with_reducible exact ⟨⟩
    | (refine vc_S (c1) rfl ?_; rintro ⟨v, y, tn⟩ hq; refine rn F ?_)
    | (refine vspineT (id := 1) [[], [0], [0, 1], [0, 1, 2], [], [4], [], [6], [], [8], [0, 1, 2, 3, 4, 5, 6, 7, 8, 9], [0, 1, 2, 3, 4, 5, 6, 7, 8, 9, 10], [0, 1, 2, 3, 4, 5, 6, 7, 8, 9, 10, 11], [0, 1, 2, 3, 4, 5, 6, 7, 8, 9, 10, 11], [], [0, 1, 2, 3, 4, 5, 6, 7, 8, 9, 10, 11, 12, 14], [0, 1, 2, 3, 4, 5, 6, 7, 8, 9, 10, 11, 12, 13, 14, 15]] [0, 1, 2, 3, 4, 5, 6, 7, 8, 9] [⟨[14], [], 10, [], [11, 12, 13]⟩, ⟨[14], [14], 15, [13], []⟩, ⟨[], [], 16, [], []⟩] (by kernel_rfl) (by kernel_rfl) (by kernel_rfl) ?_; refine rn F ?_)
    | (refine vspineT (id := 2) [[], [], [], [2], [2, 3], [2, 3, 4], [2, 3, 4, 5], [2, 3, 4, 5, 6], [], [8], [8, 9], [8, 9, 10], [8, 9, 10, 11], [8, 9, 10, 11, 12], [8, 9, 10, 11, 12, 13], [0, 1, 2, 3, 4, 5, 6, 7, 8, 9, 10, 11, 12, 13, 14], [0, 1, 2, 3, 4, 5, 6, 7, 8, 9, 10, 11, 12, 13, 14, 15], [0, 1, 2, 3, 4, 5, 6, 7, 8, 9, 10, 11, 12, 13, 14, 15, 16], [0, 1, 2, 3, 4, 5, 6, 7, 8, 9, 10, 11, 12, 13, 14, 15, 16], [], [0, 1, 2, 3, 4, 5, 6, 7, 8, 9, 10, 11, 12, 13, 14, 15, 16, 17, 19], [0, 1, 2, 3, 4, 5, 6, 7, 8, 9, 10, 11, 12, 13, 14, 15, 16, 17, 18, 19, 20]] [0, 1, 2, 3, 4, 5, 6, 7, 8, 9, 10, 11, 12, 13, 14] [⟨[19], [], 15, [], [16, 17, 18]⟩, ⟨[19], [19], 20, [18], []⟩, ⟨[], [], 21, [], []⟩] (by kernel_rfl) (by kernel_rfl) (by kernel_rfl) ?_; refine rn F ?_))
  obtain ⟨q1, q2, q3, q4⟩ := hq
  dsimp only at q1 q2 q3 q4
  have c2 := ropen21_w v q1 (crashL y tn) (crashL_le (by rw [q3]; exact hc.1.1.1) tn) c.s.k.pg c.s.k.pl.size
  have hI := fun (h : LgI c.s.k.lg) (z : Lg) (he : Ev (openL (crashL y tn)).1 z) => crash_lgI h q2 (q4 h.1) he
  generalize crashL y tn = str at *
  generalize openL str = o at *
  refine rn F ?_
  repeat' (first
    | with_reducible exact ⟨⟩
    | (refine vc_S (c2) rfl ?_; rintro ⟨s2, e⟩ hk; refine rn F ?_))
  obtain ⟨k1, k2⟩ := hk
  dsimp only at k1 k2
  refine vloopW (fun r : Tz c.tx.length => ⟨70, 3, [(9, .int .i64 r.i), (8, .int .i64 e), (7, .ptr 4 0), (4, .ptr 3 0), (0, .ptr 0 0)], [scB ⟨c.s, r.l, c.rd, c.dead⟩ 1 2, scT r.l, scR c.rd, ⟨139, true, [.int .i64 0, .int .i64 0, .int .i64 0, .bool false, .pv (.str []), .int .i64 0]⟩, ⟨111, true, s2.d⟩]⟩) (fun r => c.tx.length - r.i) ⟨0, c.tx, Nat.zero_le _, rfl⟩ (gc [0, 1, 2, 4, 6]) ?_
  rintro ⟨i, l, hi, hl⟩
  dsimp only
  have hsm : ∀ (z : Sv) (d : Bool), z.sm → (⟨z, l, c.rd, d⟩ : Sc).sm n := fun z d hz => ⟨hz, by dsimp only; rw [hl]; exact hc.2.1, hc.2.2⟩
  have htx := hc.2.1
  by_cases hil : i < c.tx.length
  · have hil2 : i < l.length := by omega
    have hset := cellsI_set l i 0
    have F := @hil2
    refine rn F ?_
    refine ⟨⟨i + 1, l.set i 0, hil, by rw [List.length_set]; exact hl⟩, by dsimp only; omega, ?_⟩
    dsimp only
    rw [List.length_set]
    exact (gc [0, 1, 2, 3, 4])
  have hil2 : ¬ i < l.length := by omega
  by_cases he : e = 0
  · subst he
    have c3 := rresult_v 0
    have F := trivial
    refine rn F ?_
    repeat' (first
      | with_reducible exact ⟨⟩
      | refine vp F (c3) ?_)
    exact vpostG_gc ⟨70, 3, [(4, .ptr 3 0)], [scB ⟨s2, l, c.rd, c.dead⟩ 1 2, scT l, scR c.rd, ⟨139, true, (resR 0).d⟩]⟩ (gc [0, 1, 2, 3]) ⟨⟨s2, l, c.rd, c.dead⟩, resR 0, _, rfl, rfl, .inl ⟨⟨rfl, hsm s2 _ k1, fun h => hI h _ (k2 rfl).2⟩, rfl⟩⟩
  · have c3 := rresult_v e
    have F := @he
    refine rn F ?_
    repeat' (first
      | with_reducible exact ⟨⟩
      | refine vp F (c3) ?_)
    exact vpostG_gc ⟨70, 3, [(4, .ptr 3 0)], [scB ⟨c.s, l, c.rd, true⟩ 1 2, scT l, scR c.rd, ⟨139, true, (resR e).d⟩]⟩ (gc [0, 1, 2, 3]) ⟨⟨c.s, l, c.rd, true⟩, resR e, _, rfl, rfl, .inl ⟨⟨rfl, hsm c.s _ hc.1, fun h => h⟩, rfl⟩⟩
theorem rstep6_w (c : Sc) (n : Nat) (hn : n ≤ 2000) (hc : c.sm n) (t : Sp) (ht : t.kind = 6) : StepC LgI c n t := by
  refine vcalls_keepg (fn := Tryz.f72) Tryz.func72 rfl (by kernel_rfl) (by simp [Tryz.f72]) ?_
  obtain ⟨k, tx, pg, torn, cut, a⟩ := t
  dsimp only at ht
  subst ht
  (unfold Tryz.f72; refine rn trivial ?_)
  refine vc_sc (c := c) 0 1 2 (rcrashS_w c n hn hc ⟨6, tx, pg, torn, cut, a⟩) rfl rfl rfl (by decide) (by decide) (by decide) rfl rfl ?_ (fun _ _ h => absurd h.1 (by decide)) (fun _ _ h => absurd h.1 (by decide))
  rintro c1 r1 ⟨-, q1, q2⟩ B
  refine rn trivial ?_
  exact vpostG_gc ⟨132, 3, [(4, .ptr 3 0)], [scB c1 1 2, scT (Sc.tx c1), scR (Sc.rd c1), ⟨139, true, Rs.d (r1)⟩]⟩ (gc [0, 1, 2, 4]) ⟨c1, r1, _, rfl, rfl, .inl ⟨⟨⟨q1.1, Nat.le_succ_of_le q1.2.1, Nat.le_succ_of_le q1.2.2⟩, q2⟩, rfl⟩⟩
end
section
attribute [local go_sem] cb cc
theorem step1_v (c : C) (m n : Nat) (h1 : 1 ≤ m) (h2 : m ≤ 1000) (h3 : 1 ≤ n) (h4 : n ≤ 1000) : VCalls prog 73 [.ptr 0 0, .int .i64 m, .int .i64 n, .bool true] [cb c] (CX fun r => ∃ t : Sp, r = .agg t.d) := by
  refine dd Tryz.func73 ?_
  (unfold Tryz.f73; refine rn trivial ?_)
  refine rn F ?_
  repeat' (first
    | with_reducible exact ⟨⟩
    | (refine sB F ?_ ?_ <;> intro hZ)
    | (refine vc_cx (k := 0) (next_v _ 16 (by omega) (by omega)) rfl rfl ?_; rintro _ _ ⟨_, rfl, _⟩; refine rn F ?_)
    | (refine vc_cx (k := 0) (next_v _ 4 (by omega) (by omega)) rfl rfl ?_; rintro _ _ ⟨_, rfl, _⟩; refine rn F ?_)
    | (refine vc_cx (k := 0) (next_v _ 90 (by omega) (by omega)) rfl rfl ?_; rintro _ _ ⟨_, rfl, _⟩; refine rn F ?_)
    | (refine vc_cx (k := 0) (next_v _ 257 (by omega) (by omega)) rfl rfl ?_; rintro _ _ ⟨_, rfl, _⟩; refine rn F ?_)
    | (refine vc_cx (k := 0) (next_v _ m (by omega) (by omega)) rfl rfl ?_; rintro _ _ ⟨_, rfl, _⟩; refine rn F ?_)
    | (refine vc_cx (k := 0) (next_v _ n (by omega) (by omega)) rfl rfl ?_; rintro _ _ ⟨_, rfl, _⟩; refine rn F ?_)
    | (refine vc_cx (k := 0) (next_i _ ((m : Int) + 1) (by omega) (by omega)) rfl rfl ?_; rintro _ _ ⟨_, rfl, _⟩; refine rn F ?_)
    | (refine vc_cx (k := 0) (action_v _ m h1 h2) rfl rfl ?_; rintro _ _ ⟨_, rfl, _⟩; refine rn F ?_))
  all_goals exact ⟨_, rfl, rfl, cc_nums _, rfl, ⟨⟨_, _, _, _, _, ⟨_, _, _, _⟩⟩, rfl⟩, _, rfl⟩
structure Sd1 (most : Nat) where
  k : Nat
  c : C
  l : List Sp
  hk : k + l.length ≤ most + 2
theorem sched1_v (c : C) (m most : Nat) (h1 : 1 ≤ m) (h2 : m ≤ 1000) (hm : most ≤ 1000) : VCalls prog 62 [.ptr 0 0, .int .i64 m, .int .i64 most, .bool true] [cb c] (CX fun r => ∃ l : List Sp, r = .pv (.sl (fz encV l)) ∧ l.length ≤ most + 2) := by
  refine dd Tryz.func62 ?_
  (unfold Tryz.f62; refine rn trivial ?_)
  refine vc_cx (k := 0) (c := c) (next_i c ((most : Int) + 1) (by omega) (by omega)) rfl rfl ?_
  rintro _ c1 ⟨k, rfl, hk⟩
  refine rn trivial ?_
  refine vloopW (fun s : Sd1 most => ⟨30, 1, [(10, .int .i64 s.k), (9, .own 1 9 0 s.l.length), (3, .bool true), (1, .int .i64 m), (0, .ptr 0 0)], [cb s.c, ⟨144, true, cells encV s.l⟩]⟩) (fun s => s.k) ⟨k, c1, [spB, spB], by simp; omega⟩ (gc [0, 1]) ?_
  rintro ⟨k, c2, l, hk⟩
  dsimp only
  have hb : (l.length + 1) * 80 ≤ 140737488355328 := by omega
  by_cases hc : 0 < k
  · obtain ⟨k, rfl⟩ : ∃ k' : Nat, k = k' + 1 := ⟨k - 1, by omega⟩
    have hkk : ((k + 1 : Nat) : Int) - 1 = k := by omega
    have F := (And.intro @hb @hkk)
    refine rn F ?_
    refine vc_cx (k := 0) (c := c2) (step1_v c2 m 5 h1 h2 (by omega) (by omega)) rfl rfl ?_
    rintro _ c3 ⟨t, rfl⟩
    have F := (And.intro @hb (And.intro @app_V @hkk))
    refine rn F ?_
    have hl2 : (l ++ [t]).length = l.length + 1 := by simp
    refine ⟨⟨k, c3, l ++ [t], by rw [hl2]; omega⟩, by dsimp only; omega, ?_⟩
    dsimp only
    rw [hl2]
    exact (gc [0, 3])
  · skip
    have F := @hb
    refine rn F ?_
    exact ⟨_, rfl, rfl, cc_nums _, rfl, ⟨l, rfl, by omega⟩, _, rfl⟩
theorem service1_v (c : C) (most : Nat) (hm : most ≤ 1000) : VCalls prog 54 [.ptr 0 0, .int .i64 most, .bool true] [cb c] (CX fun r => ∃ s : Sv, r = .agg s.d ∧ s.sm ∧ LgI s.k.lg) := by
  refine dd Tryz.func54 ?_
  (unfold Tryz.f54; refine rn trivial ?_)
  refine vc_cx (k := 0) (c := c) (next_v c 4 (by omega) (by omega)) rfl rfl ?_
  rintro _ c1 ⟨x, rfl, hx⟩
  obtain ⟨m, hm1, hm2⟩ : ∃ m : Nat, 1 + (x : Int) = m ∧ m ≤ 4 := ⟨1 + x, by omega, by omega⟩
  refine rn @hm1 ?_
  refine vc_cx (k := 0) (c := c1) (next_v c1 3 (by omega) (by omega)) rfl rfl ?_
  rintro _ c2 ⟨y, rfl, hy⟩
  refine rn trivial ?_
  refine vc_S (rsnew0 m (1 + y) (by omega) (by omega)) rfl ?_
  rintro ⟨s, e⟩ ⟨hs, he, hg⟩
  dsimp only at hs he hg
  subst he
  refine rn F ?_
  repeat' (first
    | with_reducible exact ⟨⟩
    | (refine vspine (id := 3) [0, 1, 2, 3, 4] [⟨[], [], 5, [0], []⟩, ⟨[], [], 6, [1, 2, 3, 4], [7, 8, 9, 10]⟩, ⟨[], [], 11, [9, 10], []⟩] (by kernel_rfl) (by kernel_rfl) ?_; refine rn F ?_))
  refine vc_cx (k := 0) (c := c2) (sched1_v c2 m most (by omega) (by omega) hm) rfl rfl ?_
  rintro _ c3 ⟨l, rfl, hl⟩
  have c9 := rrun_w LgI (fun x y h hx => ⟨h.ok hx.1, h.f.trans hx.2⟩) s hs l (fun i _ hk c n hn hc => rstep6_w c n hn hc _ hk)
  refine rn trivial ?_
  refine vc_S c9 rfl ?_
  rintro ⟨s1, out, rd⟩ ⟨q1, q2⟩
  refine rn trivial ?_
  exact ⟨_, rfl, rfl, cc_nums _, rfl, ⟨s1, rfl, q1, q2 (by rw [hg]; exact ⟨Lg1_ok, rfl⟩)⟩, _, rfl⟩
theorem kernel1_v (c : C) (most : Nat) (hm : most ≤ 1000) : VCalls prog 35 [.ptr 0 0, .int .i64 most, .bool true] [cb c] (CX fun r => ∃ k : Kn, r = .agg k.d ∧ k.sm ∧ LgI k.lg) := by
  refine dd Tryz.func35 ?_
  (unfold Tryz.f35; refine rn trivial ?_)
  refine vc_cx (k := 0) (c := c) (service1_v c most hm) rfl rfl ?_
  rintro _ c1 ⟨s, rfl, hs, hi⟩
  refine rn trivial ?_
  exact ⟨_, rfl, rfl, cc_nums _, rfl, ⟨s.k, rfl, hs.1, hi⟩, _, rfl⟩
end
section
attribute [local go_sem] cb cc
theorem seqE_drop {l : Int} {es : List E} (h : seqE l es) (n : Nat) : seqE (l + n) (es.drop n) := fun i hi => by
  rw [List.length_drop] at hi
  have := h (n + i) (by omega)
  rw [show (es.drop n).getD i E0 = es.getD (n + i) E0 by simp [List.getD_eq_getElem?_getD]]
  exact ⟨by rw [this.1]; omega, this.2⟩
structure DLg (x : Lg) : Prop where
  ok : lgB x = true
  len : x.es.length ≤ 4096
  end_ : x.f + x.es.length ≤ 4097
theorem DLg.lsn {x : Lg} (h : DLg x) (i : Nat) (hi : i < x.es.length) : 1 ≤ (x.es.getD i E0).lsn ∧ (x.es.getD i E0).lsn ≤ 1000000000 := by
  have h1 := lgB_seq h.ok i hi
  have h2 := lgB_hd h.ok
  simp only [Lg.hd] at h2
  have h3 := h.end_
  rw [h1.1]
  omega
theorem cutS_dl {z : Lg} (hz : lgB z = true) (hf : z.f = 1) {u : Int} (h0 : 0 ≤ u) (hu : z.f + u ≤ z.d + 1) : DLg (cutS z (z.f + u)).1 := by
  have hd := lgB_hd hz
  simp only [Lg.hd] at hd
  unfold cutS
  rw [if_neg (by rw [hz]; decide), if_neg (by unfold Lg.end_; omega), if_neg (by omega)]
  have e1 : z.f + u - z.f = u := by omega
  dsimp only
  rw [e1]
  have hs := seqE_drop (lgB_seq hz) u.toNat
  rw [show ((u.toNat : Nat) : Int) = u by omega] at hs
  have hl : (z.es.drop u.toNat).length = z.es.length - u.toNat := List.length_drop
  exact ⟨lgB_of (x := ⟨z.f + u, z.es.drop u.toNat, z.d⟩) ⟨by dsimp only; omega, by dsimp only; omega, by dsimp only; omega, by dsimp only; omega, by dsimp only; omega⟩ hs, by dsimp only; omega, by dsimp only; omega⟩
theorem dlog_v (c : C) (most : Nat) (hm : most ≤ 1000) : VCalls prog 17 [.ptr 0 0, .int .i64 most] [cb c] (CX fun r => ∃ x : Lg, r = .agg x.c ∧ DLg x) := by
  refine dd Tryz.func17 ?_
  (unfold Tryz.f17; refine rn trivial ?_)
  refine vc_cx (k := 0) (c := c) (kernel1_v c most hm) rfl rfl ?_
  rintro _ c1 ⟨k, rfl, hk, hv, hf⟩
  obtain ⟨pg, nx, x, pl, lk, tx, ix, la⟩ := k
  dsimp only at hv hf
  have hl : x.es.length ≤ 4096 := hk.1
  refine rn trivial ?_
  refine vc_cx (k := 0) (c := c1) (next_v c1 2 (by omega) (by omega)) rfl rfl ?_
  rintro _ c2 ⟨y, rfl, hy⟩
  have q1 := rlLast_v x (by omega)
  have q2 := rforce_v x (by omega) (lastS x)
  have hF : lgB (forceS x (lastS x)).1 = true ∧ (forceS x (lastS x)).1.f = 1 := by
    have hd := lgB_hd hv
    simp only [Lg.hd] at hd
    have e1 : lastS x = x.end_ := if_pos hv
    have h0 : (forceS x (lastS x)).2 = 0 := by
      unfold forceS
      rw [if_neg (by rw [hv]; decide), if_neg (by rw [e1]; omega)]
    exact ⟨(forceS_ev h0).ok hv, (forceS_ev h0).f.trans hf⟩
  generalize forceS x (lastS x) = F0 at *
  obtain ⟨z0, e0⟩ := F0
  dsimp only at hF
  refine rn F ?_
  repeat' (first
    | with_reducible exact ⟨⟩
    | (refine sB F ?_ ?_ <;> intro hZ)
    | refine vp F (q1) ?_
    | refine vp F (q2) ?_
    | (refine vspine (id := 3) [0, 1] [⟨[], [], 2, [0], []⟩, ⟨[], [], 3, [1], [4, 5, 6]⟩, ⟨[], [], 7, [6], []⟩] (by kernel_rfl) (by kernel_rfl) ?_; refine rn F ?_))
  case' refine_1 => obtain ⟨z, rfl, hz, hzf⟩ : ∃ z, z = z0 ∧ lgB z = true ∧ z.f = 1 := ⟨z0, rfl, hF⟩
  case' refine_2 => obtain ⟨z, rfl, hz, hzf⟩ : ∃ z, z = x ∧ lgB z = true ∧ z.f = 1 := ⟨x, rfl, hv, hf⟩
  all_goals
    have hd := lgB_hd hz
    simp only [Lg.hd] at hd
    have hl2 : z.es.length ≤ 4096 := hd.2.2.1
    refine vc_cx (k := 0) (c := c2) (next_v c2 5 (by omega) (by omega)) rfl rfl ?_
    rintro _ c3 ⟨w, rfl, hw⟩
    by_cases hq : (w : Int) = 0 ∧ z.d ≥ z.f
    · obtain ⟨hq1, hq2⟩ := hq
      have F := (And.intro @hq1 @hq2)
      refine rn F ?_
      repeat' (first
        | with_reducible exact ⟨⟩
        | (refine vspine (id := 5) [0, 1, 2, 3, 4, 5, 6, 7, 8, 9] [⟨[], [], 10, [0, 1, 2, 4, 5, 6, 7, 8], [11]⟩, ⟨[], [], 12, [1, 2, 3, 4, 5, 6, 7, 8, 9], [13, 14, 15]⟩, ⟨[], [], 16, [15], []⟩] (by kernel_rfl) (by kernel_rfl) ?_; refine rn F ?_))
      refine vc_cx (k := 0) (c := c3) (next_i c3 (z.d - z.f + 2) (by omega) (by omega)) rfl rfl ?_
      rintro _ c4 ⟨u, rfl, hu⟩
      have q3 := rcut_v z (by omega) (z.f + u)
      have F := trivial
      refine rn F ?_
      repeat' (first
        | with_reducible exact ⟨⟩
        | refine vp F (q3) ?_)
      exact ⟨_, rfl, rfl, cc_nums _, rfl, ⟨(cutS z (z.f + u)).1, rfl, cutS_dl hz hzf (by omega) (by omega)⟩, _, rfl⟩
    · skip
      have F := trivial
      refine rn F ?_
      repeat' (first
        | with_reducible exact ⟨⟩
        | (refine sG F ?_ ?_ <;> intro hZ))
      all_goals first
        | exact ⟨_, rfl, rfl, cc_nums _, rfl, ⟨z, rfl, hz, hl2, by omega⟩, _, rfl⟩
        | (exfalso; omega)
        | skip
end
section
theorem drK_eqS {P : Program} {all r : List Oper} {o : Oper} {fs : List (List Nat × Bool)} {K : St → Prop} {S : St} {d : DV} : vdrK P all o r fs K S d = vdr P all r (fs ++ [([], false)]) K (S.put o.dst (optV o.guard true d)) := rfl
attribute [local go_sem ↓] drK_eqS
attribute [local go_sem] lenBo allBo appBo slkBo srcBo frzBo app_Bo lenI allI appI slkI srcI frzI app_In appD cb cc allEq leafEq E.d noteM Ch0 Ce0
theorem dlogS_v (c : C) : VCalls prog 17 [.ptr 0 0, .int .i64 15] [cb c] (CX fun r => ∃ x : Lg, r = .agg x.c ∧ x.es.length ≤ 4096) := by
  refine (dlog_v c 15 (by decide)).mono ?_
  rintro r h' ⟨B, e1, e2, e3, e4, ⟨x, rfl, hx⟩, c', e5⟩
  exact ⟨B, e1, e2, e3, e4, ⟨x, rfl, hx.len⟩, c', e5⟩
structure NS where
  k : Nat
  c : C
  x : Lg
  hl : x.es.length + k ≤ 8
theorem segnotes_v (l : List UInt8) (hl : l.length ≤ 9223372036854775807) (s : List UInt8) (hs : s.length ≤ 9223372036854775807) : VCalls prog 3 [.pv (.sl (fz encU l)), .pv (.str s)] [] (Ret (.bool true)) := by
  refine dk Tryz.func3 ?_
  (unfold Tryz.f3; refine rn trivial ?_)
  refine vc_pure sawake_v rfl ?_
  refine rn trivial ?_
  by_cases h200 : (200 : Int) < s.length
  · (refine rn @h200 ?_; try with_reducible exact ⟨⟩)
  refine rn @h200 ?_
  refine vc_draw (l := l) (most := 400) (by omega) (by omega) hl fun c0 => ?_
  refine rn trivial ?_
  refine vc_pure rlnew_v rfl ?_
  refine rn trivial ?_
  refine vc_cx (k := 0) (c := c0) (next_v c0 8 (by omega) (by omega)) rfl rfl ?_
  rintro _ c1 ⟨z, rfl, hz⟩
  refine rn trivial ?_
  refine vloopW (fun t : NS => ⟨146, 0, [(7, .int .i64 t.k), (6, .ptr 1 0), (5, .ptr 0 0), (1, .pv (.str s))], [cb t.c, ⟨28, true, t.x.c⟩]⟩) (fun t => t.k) ⟨z, c1, Lg1, by show 0 + z ≤ 8; omega⟩ (gc [0, 1]) ?_
  rintro ⟨k, c2, x, hxl⟩
  dsimp only
  have hx9 : x.es.length ≤ 9223372036854775807 := by omega
  by_cases hk : 0 < k
  · have hk' : (0 : Int) < k := by omega
    refine rn @hk' ?_
    refine vc_cx (k := 0) (c := c2) (smdraw_v c2) rfl rfl ?_
    rintro _ c3 ⟨r, rfl, hr⟩
    refine rn trivial ?_
    refine vc_pure (snote_v r hr.1) rfl ?_
    refine rn trivial ?_
    refine vdraw (by kernel_rfl) (by kernel_rfl) ?_
    refine rn trivial ?_
    refine vdc_call (srnote_v r hr.1) rfl rfl ?_
    refine rn trivial ?_
    obtain ⟨j, rfl⟩ : ∃ j, k = j + 1 := ⟨k - 1, by omega⟩
    have hkk : ((j + 1 : Nat) : Int) - 1 = j := by omega
    refine vc_cx (k := 0) (c := c3) (next_v c3 4 (by omega) (by omega)) rfl rfl ?_
    rintro _ c4 ⟨y, rfl, hy⟩
    have hbl : (blobK r r.done.length).length ≤ 900000000 := by
      rw [blobK_len r _ (Nat.le_refl _)]
      have := hr.1
      omega
    by_cases y0 : y = 0
    · subst y0
      refine rn trivial ?_
      have ha := app_len x ⟨0, 8, 0, 0, 0, 0, Ch0, s⟩
      refine vc_pure (rappend_v x hx9 ⟨0, 8, 0, 0, 0, 0, Ch0, s⟩) rfl ?_
      generalize appS x ⟨0, 8, 0, 0, 0, 0, Ch0, s⟩ = q at *
      obtain ⟨x', n', st⟩ := q
      dsimp only at ha
      refine rn trivial ?_
      by_cases h0 : st = 0
      · (refine rn (And.intro @h0 @hkk) ?_; try with_reducible exact ⟨⟩)
        exact ⟨⟨j, c4, x', by omega⟩, by dsimp only; omega, (gc [0, 1])⟩
      · (refine rn (And.intro @h0 @hkk) ?_; try with_reducible exact ⟨⟩)
        exact ⟨⟨j, c4, x, by omega⟩, by dsimp only; omega, (gc [0, 1])⟩
    by_cases y1 : y = 1
    · subst y1
      refine rn trivial ?_
      refine vc_cx (k := 0) (c := c4) (spoilt_v c4 (blobK r r.done.length) hbl) rfl rfl ?_
      rintro _ c5 ⟨t, rfl, ht⟩
      refine rn trivial ?_
      have ha := app_len x { noteM r with blob := t }
      refine vc_pure (rappend_v x hx9 { noteM r with blob := t }) rfl ?_
      generalize appS x { noteM r with blob := t } = q at *
      obtain ⟨x', n', st⟩ := q
      dsimp only at ha
      refine rn trivial ?_
      by_cases h0 : st = 0
      · (refine rn (And.intro @h0 @hkk) ?_; try with_reducible exact ⟨⟩)
        exact ⟨⟨j, c5, x', by omega⟩, by dsimp only; omega, (gc [0, 1])⟩
      · (refine rn (And.intro @h0 @hkk) ?_; try with_reducible exact ⟨⟩)
        exact ⟨⟨j, c5, x, by omega⟩, by dsimp only; omega, (gc [0, 1])⟩
    · have y0' : ¬ (y : Int) = 0 := by omega
      have y1' : ¬ (y : Int) = 1 := by omega
      refine rn (And.intro @y0' @y1') ?_
      have ha := app_len x (noteM r)
      refine vc_pure (rappend_v x hx9 (noteM r)) rfl ?_
      generalize appS x (noteM r) = q at *
      obtain ⟨x', n', st⟩ := q
      dsimp only at ha
      refine rn trivial ?_
      by_cases h0 : st = 0
      · (refine rn (And.intro @h0 @hkk) ?_; try with_reducible exact ⟨⟩)
        exact ⟨⟨j, c4, x', by omega⟩, by dsimp only; omega, (gc [0, 1])⟩
      · (refine rn (And.intro @h0 @hkk) ?_; try with_reducible exact ⟨⟩)
        exact ⟨⟨j, c4, x, by omega⟩, by dsimp only; omega, (gc [0, 1])⟩
  · obtain rfl : k = 0 := by omega
    refine rn trivial ?_
    refine vc_cx (k := 0) (c := c2) (smdraw_v c2) rfl rfl ?_
    rintro _ c3 ⟨r, rfl, hr⟩
    refine rn trivial ?_
    refine vdraw (by kernel_rfl) (by kernel_rfl) ?_
    refine rn trivial ?_
    refine vdc_call (snote_v r hr.1) rfl rfl ?_
    refine rn trivial ?_
    refine vdc_call (srnote_v r hr.1) rfl rfl ?_
    refine rn trivial ?_
    have d1 := mlatest_v x hx9
    have d2 := mrlatest_v x hx9
    have hsm := mlatS_sm x
    generalize mlatS x = q at d1 d2 hsm
    obtain ⟨a, n, o⟩ := q
    dsimp only at hsm
    have hs := ssame_v a hsm
    have hnn : (n != n) = false := by simp
    have hno : (o != o) = false := by simp
    refine vc_pure d1 rfl ?_
    refine rn trivial ?_
    refine vc_pure d2 rfl ?_
    refine rn (And.intro @hnn @hno) ?_
    refine vc_pure hs rfl ?_
    refine rn trivial ?_
    refine vc_cx (k := 0) (c := c3) (dlogS_v c3) rfl rfl ?_
    rintro _ c4 ⟨g, rfl, hg⟩
    refine rn trivial ?_
    have d3 := mlatest_v g (by omega)
    have d4 := mrlatest_v g (by omega)
    have hsm2 := mlatS_sm g
    have hat := mlatS_at g
    generalize mlatS g = q at d3 d4 hsm2 hat
    obtain ⟨a2, n2, o2⟩ := q
    dsimp only at hsm2 hat
    have hs2 := ssame_v a2 hsm2
    have hn2 : (n2 == n2) = true := by simp
    have ho2 : (o2 == o2) = true := by simp
    refine vc_pure d3 rfl ?_
    refine rn trivial ?_
    refine vc_pure d4 rfl ?_
    refine rn (And.intro @hn2 @ho2) ?_
    refine vc_pure hs2 rfl ?_
    by_cases i0 : n2 = 0
    · (refine rn @i0 ?_; try with_reducible exact ⟨⟩)
    · have i0' : (n2 == 0) = false := by simpa using i0
      rcases hat with h | ⟨k, hk2, hi, hko⟩
      · exact absurd h i0
      have hge := fzE_g g.es k hk2
      have hv := rvalid_v (g.es.getD k E0)
      rw [hko] at hv
      refine rn (And.intro @i0' (And.intro @hi @hge)) ?_
      refine vc_pure hv rfl ?_
      (refine rn trivial ?_; try with_reducible exact ⟨⟩)
end
end Go.Proofs.YtcbeaefljofgeaaGreat
