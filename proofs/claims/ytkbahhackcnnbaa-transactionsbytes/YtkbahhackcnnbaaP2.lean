/-
  Contracts of functions of the program and of the statements, and plain laws. No condition.
-/
import Derived.Test.YtkbahhackcnnbaaP1
import Derived.Test.YtkbahhackcnnbaaV3
import Derived.Test.YtkbahhackcnnbaaV2
namespace Go.Proofs.Ytkbahhackcnnbaa
open Go.V Go
set_option maxRecDepth 100000
set_option pp.deepTerms true
set_option pp.deepTerms.threshold 100000
set_option pp.maxSteps 1000000
set_option pp.proofs false
set_option linter.unusedSimpArgs false

structure To (n : Nat) where
  i : Nat
  hi : i ≤ n
theorem app_T (l : List Tx) (t : Tx) : cells encT l ++ [.pv (.lit (.int .i64 t.id)), .pv (.lit (.int .i64 t.st)), .pv (.lit (.int .i64 t.n)), .pv (.lit (.int .i64 t.b)), .pv (.sl (fz encI t.l)), .pv (.sl (fz encI t.s))] = cells encT (l ++ [t]) := by rw [cells_app]; rfl
theorem remS_le (l : List Tx) (a : Int) : (remS l a).length ≤ l.length := keepL_le _ _
theorem remS_succ (l : List Tx) (a : Int) (i : Nat) (h : i < l.length) : remS (l.take (i + 1)) a = if l[i].id = a then remS (l.take i) a else remS (l.take i) a ++ [l[i]] := by
  unfold remS
  rw [keepL_take_succ l _ i h]
  by_cases hx : l[i].id = a <;> simp [hx]
theorem rremove_v (l : List Tx) (hl : l.length ≤ 1000000) (a : Int) : VCalls Try.prog 22 [.pv (.sl (fz encT l)), .int .i64 a] [] (Ret (.pv (.sl (fz encT (remS l a))))) := by
  refine vcalls_drop (fn := Try.f22) Try.func22 rfl (by kernel_rfl) (by simp [Try.f22]) ?_
  simp (config := { maxSteps := 2000000 }) (implicitDefEqProofs := false) (disch := first | omega | assumption | (simp only []; done) | fail) only [go_sem, Nat.reduceAdd, Int.reduceAdd, Try.f22]
  refine VLoop.nilOwn 5 52 6 rfl ?_
  refine vloopW (fun s : To l.length => ⟨28, 0, [(6, .int .i64 s.i), (5, .own 0 6 0 (remS (l.take s.i) a).length), (0, .pv (.sl (fz encT l))), (1, .int .i64 a)], [⟨52, true, cells encT (remS (l.take s.i) a)⟩]⟩) (fun s => l.length - s.i) ⟨0, Nat.zero_le _⟩ (by refine gc_of (keep := [0]) rfl rfl rfl (by decide) ?_ ?_ <;> (repeat' apply And.intro) <;> first | trivial | rfl | exact ⟨_, rfl, rfl, rfl, .inl ⟨rfl, rfl⟩⟩ | exact ⟨_, rfl, rfl, rfl, .inl ⟨cells_nums _ _ _, rfl⟩⟩ | exact ⟨_, rfl, rfl, rfl, .inl ⟨pvs_nums _ _, rfl⟩⟩ | exact ⟨_, rfl, rfl, rfl, .inr ⟨rfl, rfl⟩⟩) ?_
  intro s
  have hi := s.hi
  have hg := fun h : s.i < l.length => fzT_at l s.i h
  have hle := remS_le (l.take s.i) a
  rw [List.length_take] at hle
  have hb : ((remS (l.take s.i) a).length + 1) * 80 ≤ 140737488355328 := by omega
  have hs := remS_succ l a s.i
  (try simp (config := { maxSteps := 2000000 }) (implicitDefEqProofs := false) (disch := first | omega | assumption | (simp only []; done) | fail) only [go_sem, Nat.reduceBEq, Int.reduceBEq])
  repeat' (first
    | (refine vrunG_split (fun hZ => ?_) (fun hZ => ?_) <;> (try rw [hZ]) <;> (try simp only [decide_eq_true_eq, decide_eq_false_iff_not, Bool.or_eq_true, Bool.and_eq_true, Bool.or_eq_false_iff, Bool.and_eq_false_imp, Bool.not_eq_true', Bool.not_eq_false', beq_iff_eq, beq_eq_false_iff_ne, bne_iff_ne, bne_eq_false_iff_eq, ne_eq, Bool.not_eq_eq_eq_not, Bool.not_true, Bool.not_false] at hZ) <;> (try (first | rw [(hZ : _ = false)] | rw [(hZ : _ = true)])) <;> skip)
    | (refine vbr_split (fun hZ => ?_) (fun hZ => ?_) <;> (try rw [hZ]) <;> (try simp only [decide_eq_true_eq, decide_eq_false_iff_not, Bool.or_eq_true, Bool.and_eq_true, Bool.or_eq_false_iff, Bool.and_eq_false_imp, Bool.not_eq_true', Bool.not_eq_false', beq_iff_eq, beq_eq_false_iff_ne, bne_iff_ne, bne_eq_false_iff_eq, ne_eq, Bool.not_eq_eq_eq_not, Bool.not_true, Bool.not_false] at hZ) <;> (try (first | rw [(hZ : _ = false)] | rw [(hZ : _ = true)])) <;> (try simp (config := { maxSteps := 2000000 }) (implicitDefEqProofs := false) (disch := first | omega | assumption | (simp only [List.length_cons, List.length_nil, Nat.zero_add, Nat.reduceAdd]; done) | fail) only [go_sem, V.splice, V.mk, ↓reduceIte, reduceCtorEq, Nat.reduceAdd, Nat.reduceLT, Nat.reduceLeDiff, Nat.reduceBEq, Int.reduceLT, Int.reduceAdd, Int.reduceBEq, hg, lenT, allT, frzT, hb, app_T]))
    | (refine vdrG_split (fun hZ => ?_) (fun hZ => ?_) <;> (try rw [hZ]) <;> (try simp only [decide_eq_true_eq, decide_eq_false_iff_not, Bool.or_eq_true, Bool.and_eq_true, Bool.or_eq_false_iff, Bool.and_eq_false_imp, Bool.not_eq_true', Bool.not_eq_false', beq_iff_eq, beq_eq_false_iff_ne, bne_iff_ne, bne_eq_false_iff_eq, ne_eq, Bool.not_eq_eq_eq_not, Bool.not_true, Bool.not_false] at hZ) <;> (try (first | rw [(hZ : _ = false)] | rw [(hZ : _ = true)])) <;> skip)
    )
  · replace hs := hs (by omega)
    rw [if_neg (by assumption)] at hs
    refine ⟨⟨s.i + 1, by omega⟩, by show l.length - (s.i + 1) < l.length - s.i; omega, ?_⟩
    rw [hs, List.length_append]
    exact (by refine gc_of (keep := [2]) rfl rfl rfl (by decide) ?_ ?_ <;> (repeat' apply And.intro) <;> first | trivial | rfl | exact ⟨_, rfl, rfl, rfl, .inl ⟨rfl, rfl⟩⟩ | exact ⟨_, rfl, rfl, rfl, .inl ⟨cells_nums _ _ _, rfl⟩⟩ | exact ⟨_, rfl, rfl, rfl, .inl ⟨pvs_nums _ _, rfl⟩⟩ | exact ⟨_, rfl, rfl, rfl, .inr ⟨rfl, rfl⟩⟩)
  · replace hs := hs (by omega)
    rw [if_pos (by assumption)] at hs
    refine ⟨⟨s.i + 1, by omega⟩, by show l.length - (s.i + 1) < l.length - s.i; omega, ?_⟩
    rw [hs]
    exact (by refine gc_of (keep := [0]) rfl rfl rfl (by decide) ?_ ?_ <;> (repeat' apply And.intro) <;> first | trivial | rfl | exact ⟨_, rfl, rfl, rfl, .inl ⟨rfl, rfl⟩⟩ | exact ⟨_, rfl, rfl, rfl, .inl ⟨cells_nums _ _ _, rfl⟩⟩ | exact ⟨_, rfl, rfl, rfl, .inl ⟨pvs_nums _ _, rfl⟩⟩ | exact ⟨_, rfl, rfl, rfl, .inr ⟨rfl, rfl⟩⟩)
  · rw [List.take_of_length_le (by omega)]
def ractS (l : List Tx) (a : Int) : Int × Int :=
  if tblB l = false then (0, 15) else if idT l a < 0 then (0, 16) else if (l.getD (idT l a).toNat Tx0).st ≠ 1 then (0, 15) else (idT l a, 0)
theorem ractS_two (l : List Tx) (a : Int) : (ractS l a).2 = (activeS l a).2 := by
  unfold ractS activeS
  split
  · rfl
  · split
    · rfl
    · split <;> rfl
theorem ractS_one {l : List Tx} {a : Int} (h : (activeS l a).2 = 0) : (ractS l a).1 = idT l a := by
  unfold ractS
  unfold activeS at h
  split at h
  · simp at h
  · rename_i h1
    split at h
    · simp at h
    · rename_i h2
      split at h
      · simp at h
      · rename_i h3
        rw [if_neg h1, if_neg h2, if_neg h3]
set_option maxHeartbeats 2000000 in
theorem ractive_v (l : List Tx) (hs : smL l) (a : Int) : VCalls Try.prog 56 [.pv (.sl (fz encT l)), .int .i64 a] [] (Ret (.tup [.int .i64 (ractS l a).1, .int .i64 (ractS l a).2])) := by
  refine vcalls_drop (fn := Try.f56) Try.func56 rfl (by kernel_rfl) (by simp [Try.f56]) ?_
  have c1 := rtvalid_v l hs
  have c2 := rfind0_v l hs.1 a
  unfold ractS
  rcases idT_cases l a with h | ⟨i, hi, h, hid⟩
  · rw [h] at c2 ⊢
    simp (config := { maxSteps := 2000000 }) (implicitDefEqProofs := false) (disch := first | omega | assumption | (simp only []; done) | fail) only [go_sem, ↓reduceIte, Nat.reduceAdd, Nat.reduceLT, Nat.reduceBEq, Int.reduceLT, Int.reduceNeg, Int.reduceAdd, Int.reduceBEq, Try.f56]
    skip
    repeat' (first
      | (refine vrunG_split (fun hZ => ?_) (fun hZ => ?_) <;> (try rw [hZ]) <;> (try simp only [decide_eq_true_eq, decide_eq_false_iff_not, Bool.or_eq_true, Bool.and_eq_true, Bool.or_eq_false_iff, Bool.and_eq_false_imp, Bool.not_eq_true', Bool.not_eq_false', beq_iff_eq, beq_eq_false_iff_ne, bne_iff_ne, bne_eq_false_iff_eq, ne_eq, Bool.not_eq_eq_eq_not, Bool.not_true, Bool.not_false] at hZ) <;> (try (first | rw [(hZ : _ = false)] | rw [(hZ : _ = true)])) <;> skip)
      | (refine vbr_split (fun hZ => ?_) (fun hZ => ?_) <;> (try rw [hZ]) <;> (try simp only [decide_eq_true_eq, decide_eq_false_iff_not, Bool.or_eq_true, Bool.and_eq_true, Bool.or_eq_false_iff, Bool.and_eq_false_imp, Bool.not_eq_true', Bool.not_eq_false', beq_iff_eq, beq_eq_false_iff_ne, bne_iff_ne, bne_eq_false_iff_eq, ne_eq, Bool.not_eq_eq_eq_not, Bool.not_true, Bool.not_false] at hZ) <;> (try (first | rw [(hZ : _ = false)] | rw [(hZ : _ = true)])) <;> (try simp (config := { maxSteps := 2000000 }) (implicitDefEqProofs := false) (disch := first | omega | assumption | (simp only []; done) | fail) only [go_sem, ↓reduceIte, reduceCtorEq, Nat.reduceBEq, Int.reduceBEq]))
      | (refine vdrG_split (fun hZ => ?_) (fun hZ => ?_) <;> (try rw [hZ]) <;> (try simp only [decide_eq_true_eq, decide_eq_false_iff_not, Bool.or_eq_true, Bool.and_eq_true, Bool.or_eq_false_iff, Bool.and_eq_false_imp, Bool.not_eq_true', Bool.not_eq_false', beq_iff_eq, beq_eq_false_iff_ne, bne_iff_ne, bne_eq_false_iff_eq, ne_eq, Bool.not_eq_eq_eq_not, Bool.not_true, Bool.not_false] at hZ) <;> (try (first | rw [(hZ : _ = false)] | rw [(hZ : _ = true)])) <;> skip)
      | (refine vc_pure (c1) rfl ?_; (try simp (config := { maxSteps := 2000000 }) (implicitDefEqProofs := false) (disch := first | omega | assumption | (simp only []; done) | fail) only [go_sem]))
      | (refine vc_pure (c2) rfl ?_; (try simp (config := { maxSteps := 2000000 }) (implicitDefEqProofs := false) (disch := first | omega | assumption | (simp only []; done) | fail) only [go_sem, Nat.reduceLT, Nat.reduceBEq, Int.reduceLT, Int.reduceNeg, Int.reduceBEq]))
      )
    all_goals rfl
  · rw [h] at c2 ⊢
    have hg := fzT_at l i hi
    rw [Int.toNat_natCast, getD_eq l i hi, if_neg (show ¬ (i : Int) < 0 by omega)]
    simp (config := { maxSteps := 2000000 }) (implicitDefEqProofs := false) (disch := first | omega | assumption | (simp only []; done) | fail) only [go_sem, Nat.reduceAdd, Nat.reduceBEq, Int.reduceAdd, Int.reduceBEq, Try.f56]
    skip
    repeat' (first
      | (refine vrunG_split (fun hZ => ?_) (fun hZ => ?_) <;> (try rw [hZ]) <;> (try simp only [decide_eq_true_eq, decide_eq_false_iff_not, Bool.or_eq_true, Bool.and_eq_true, Bool.or_eq_false_iff, Bool.and_eq_false_imp, Bool.not_eq_true', Bool.not_eq_false', beq_iff_eq, beq_eq_false_iff_ne, bne_iff_ne, bne_eq_false_iff_eq, ne_eq, Bool.not_eq_eq_eq_not, Bool.not_true, Bool.not_false] at hZ) <;> (try (first | rw [(hZ : _ = false)] | rw [(hZ : _ = true)])) <;> skip)
      | (refine vbr_split (fun hZ => ?_) (fun hZ => ?_) <;> (try rw [hZ]) <;> (try simp only [decide_eq_true_eq, decide_eq_false_iff_not, Bool.or_eq_true, Bool.and_eq_true, Bool.or_eq_false_iff, Bool.and_eq_false_imp, Bool.not_eq_true', Bool.not_eq_false', beq_iff_eq, beq_eq_false_iff_ne, bne_iff_ne, bne_eq_false_iff_eq, ne_eq, Bool.not_eq_eq_eq_not, Bool.not_true, Bool.not_false] at hZ) <;> (try (first | rw [(hZ : _ = false)] | rw [(hZ : _ = true)])) <;> (try simp (config := { maxSteps := 2000000 }) (implicitDefEqProofs := false) (disch := first | omega | assumption | (simp only []; done) | fail) only [go_sem, ↓reduceIte, reduceCtorEq, Nat.reduceLT, Nat.reduceBEq, Int.reduceLT, Int.reduceBEq]))
      | (refine vdrG_split (fun hZ => ?_) (fun hZ => ?_) <;> (try rw [hZ]) <;> (try simp only [decide_eq_true_eq, decide_eq_false_iff_not, Bool.or_eq_true, Bool.and_eq_true, Bool.or_eq_false_iff, Bool.and_eq_false_imp, Bool.not_eq_true', Bool.not_eq_false', beq_iff_eq, beq_eq_false_iff_ne, bne_iff_ne, bne_eq_false_iff_eq, ne_eq, Bool.not_eq_eq_eq_not, Bool.not_true, Bool.not_false] at hZ) <;> (try (first | rw [(hZ : _ = false)] | rw [(hZ : _ = true)])) <;> skip)
      | (refine vc_pure (c1) rfl ?_; (try simp (config := { maxSteps := 2000000 }) (implicitDefEqProofs := false) (disch := first | omega | assumption | (simp only []; done) | fail) only [go_sem]))
      | (refine vc_pure (c2) rfl ?_; (try simp (config := { maxSteps := 2000000 }) (implicitDefEqProofs := false) (disch := first | omega | assumption | (simp only [List.length_cons, List.length_nil, Nat.zero_add, Nat.reduceAdd]; done) | fail) only [go_sem, ↓reduceIte, reduceCtorEq, Nat.reduceBEq, Int.reduceBEq, hg]))
      )
    all_goals first | rfl | (rw [if_pos (by assumption)]) | (rw [if_neg (by omega)])
set_option maxHeartbeats 2000000 in
theorem rsave_v (l : List Tx) (hs : smL l) (a : Int) : VCalls Try.prog 24 [.pv (.sl (fz encT l)), .int .i64 a] [] (Ret (tblD (saveS l a))) := by
  refine VCalls.unwk ?_
  refine vcalls_drop (fn := Try.f24) Try.func24 rfl (by kernel_rfl) (by simp [Try.f24]) ?_
  have c1 := ractive_v l hs a
  have hok := @activeS_ok l a
  rw [ractS_two] at c1
  unfold saveS
  by_cases hz : (activeS l a).2 = 0
  · obtain ⟨hv, i, hi, h1, h2, h3⟩ := hok hz
    rw [ractS_one hz, h1, hz] at c1
    have hts := okB_len (tblB_at hv hi)
    have hg := fzT_at l i hi
    have hw := rset_v l hs.1 i hi ⟨l[i].id, l[i].st, l[i].n, l[i].b, l[i].l, l[i].s ++ [l[i].n]⟩
    rw [if_neg (by rw [hz]; simp), h3, h1, Int.toNat_natCast]
    generalize l[i] = t at *
    obtain ⟨id, st, n, b, q, s⟩ := t
    dsimp only at hts hg
    simp (config := { maxSteps := 2000000 }) (implicitDefEqProofs := false) (disch := first | omega | assumption | (simp only []; done) | fail) only [go_sem, Nat.reduceAdd, Nat.reduceBEq, Int.reduceAdd, Int.reduceBEq, Try.f24]
    skip
    repeat' (first
      | (refine vrunG_split (fun hZ => ?_) (fun hZ => ?_) <;> (try rw [hZ]) <;> (try simp only [decide_eq_true_eq, decide_eq_false_iff_not, Bool.or_eq_true, Bool.and_eq_true, Bool.or_eq_false_iff, Bool.and_eq_false_imp, Bool.not_eq_true', Bool.not_eq_false', beq_iff_eq, beq_eq_false_iff_ne, bne_iff_ne, bne_eq_false_iff_eq, ne_eq, Bool.not_eq_eq_eq_not, Bool.not_true, Bool.not_false] at hZ) <;> (try (first | rw [(hZ : _ = false)] | rw [(hZ : _ = true)])) <;> skip)
      | (refine vbr_split (fun hZ => ?_) (fun hZ => ?_) <;> (try rw [hZ]) <;> (try simp only [decide_eq_true_eq, decide_eq_false_iff_not, Bool.or_eq_true, Bool.and_eq_true, Bool.or_eq_false_iff, Bool.and_eq_false_imp, Bool.not_eq_true', Bool.not_eq_false', beq_iff_eq, beq_eq_false_iff_ne, bne_iff_ne, bne_eq_false_iff_eq, ne_eq, Bool.not_eq_eq_eq_not, Bool.not_true, Bool.not_false] at hZ) <;> (try (first | rw [(hZ : _ = false)] | rw [(hZ : _ = true)])) <;> (try simp (config := { maxSteps := 2000000 }) (implicitDefEqProofs := false) (disch := first | omega | assumption | (simp only []; done) | fail) only [go_sem, Nat.reduceBEq, Int.reduceBEq]))
      | (refine vdrG_split (fun hZ => ?_) (fun hZ => ?_) <;> (try rw [hZ]) <;> (try simp only [decide_eq_true_eq, decide_eq_false_iff_not, Bool.or_eq_true, Bool.and_eq_true, Bool.or_eq_false_iff, Bool.and_eq_false_imp, Bool.not_eq_true', Bool.not_eq_false', beq_iff_eq, beq_eq_false_iff_ne, bne_iff_ne, bne_eq_false_iff_eq, ne_eq, Bool.not_eq_eq_eq_not, Bool.not_true, Bool.not_false] at hZ) <;> (try (first | rw [(hZ : _ = false)] | rw [(hZ : _ = true)])) <;> skip)
      | (refine vc_giveA [3] _ _ (hw) rfl ⟨⟨by simp, cells_nums _ _ _⟩, trivial⟩ (by decide) rfl (by simp [DV.nums.go, DV.nums]) ?_ ?_; (focus (simp (config := { maxSteps := 2000000 }) (implicitDefEqProofs := false) (disch := first | omega | assumption | (simp only [List.length_append, List.length_cons, List.length_nil] <;> omega) | fail) only [go_sem, ↓reduceIte, DV.ren, DV.ren.go, List.idxOf_cons, List.getD_cons_succ, List.getD_cons_zero, Tx.d, frzI]; done)); (try simp (config := { maxSteps := 2000000 }) (implicitDefEqProofs := false) (disch := first | omega | assumption | (simp only []; done) | fail) only [go_sem, Nat.reduceBEq, Int.reduceBEq]))
      | (refine vc_pure (c1) rfl ?_; (try simp (config := { maxSteps := 2000000 }) (implicitDefEqProofs := false) (disch := first | omega | assumption | (simp only [List.length_cons, List.length_nil, Nat.zero_add, Nat.reduceAdd]; done) | fail) only [go_sem, V.splice, ↓reduceIte, reduceCtorEq, Nat.reduceAdd, Nat.reduceBEq, Int.reduceAdd, Int.reduceBEq, hg]))
      | (refine vspine (id := 7) [0, 1, 3, 4] [⟨[5], [], 2, [0, 3, 4], []⟩, ⟨[5], [5], 6, [0, 1, 3, 4], [7]⟩, ⟨[], [], 8, [], []⟩] (by kernel_rfl) (by kernel_rfl) ?_; (try simp (config := { maxSteps := 2000000 }) (implicitDefEqProofs := false) (disch := first | omega | assumption | (simp only []; done) | fail) only [go_sem, V.splice, V.mk, ↓reduceIte, reduceCtorEq, Nat.reduceAdd, Nat.reduceLT, Nat.reduceLeDiff, Nat.reduceBEq, Int.reduceLT, Int.reduceAdd, Int.reduceBEq, app_I, lenI, allI, srcI, mem_ok]))
      )
    all_goals first | rfl | (rw [if_pos (by omega)]; rfl) | (rw [if_neg (by omega)]; rfl) | skip
  · generalize activeS l a = r at *
    generalize (ractS l a).1 = j at *
    rw [if_pos hz]
    simp (config := { maxSteps := 2000000 }) (implicitDefEqProofs := false) (disch := first | omega | assumption | (simp only []; done) | fail) only [go_sem, Nat.reduceAdd, Nat.reduceBEq, Int.reduceAdd, Int.reduceBEq, Try.f24]
    skip
    repeat' (first
      | (refine vrunG_split (fun hZ => ?_) (fun hZ => ?_) <;> (try rw [hZ]) <;> (try simp only [decide_eq_true_eq, decide_eq_false_iff_not, Bool.or_eq_true, Bool.and_eq_true, Bool.or_eq_false_iff, Bool.and_eq_false_imp, Bool.not_eq_true', Bool.not_eq_false', beq_iff_eq, beq_eq_false_iff_ne, bne_iff_ne, bne_eq_false_iff_eq, ne_eq, Bool.not_eq_eq_eq_not, Bool.not_true, Bool.not_false] at hZ) <;> (try (first | rw [(hZ : _ = false)] | rw [(hZ : _ = true)])) <;> skip)
      | (refine vbr_split (fun hZ => ?_) (fun hZ => ?_) <;> (try rw [hZ]) <;> (try simp only [decide_eq_true_eq, decide_eq_false_iff_not, Bool.or_eq_true, Bool.and_eq_true, Bool.or_eq_false_iff, Bool.and_eq_false_imp, Bool.not_eq_true', Bool.not_eq_false', beq_iff_eq, beq_eq_false_iff_ne, bne_iff_ne, bne_eq_false_iff_eq, ne_eq, Bool.not_eq_eq_eq_not, Bool.not_true, Bool.not_false] at hZ) <;> (try (first | rw [(hZ : _ = false)] | rw [(hZ : _ = true)])) <;> skip)
      | (refine vdrG_split (fun hZ => ?_) (fun hZ => ?_) <;> (try rw [hZ]) <;> (try simp only [decide_eq_true_eq, decide_eq_false_iff_not, Bool.or_eq_true, Bool.and_eq_true, Bool.or_eq_false_iff, Bool.and_eq_false_imp, Bool.not_eq_true', Bool.not_eq_false', beq_iff_eq, beq_eq_false_iff_ne, bne_iff_ne, bne_eq_false_iff_eq, ne_eq, Bool.not_eq_eq_eq_not, Bool.not_true, Bool.not_false] at hZ) <;> (try (first | rw [(hZ : _ = false)] | rw [(hZ : _ = true)])) <;> skip)
      | (refine vc_pure (c1) rfl ?_; (try simp (config := { maxSteps := 2000000 }) (implicitDefEqProofs := false) (disch := first | omega | assumption | (simp only []; done) | fail) only [go_sem, Nat.reduceBEq, Int.reduceBEq]))
      )
    all_goals first | rfl | contradiction | skip
end Go.Proofs.Ytkbahhackcnnbaa

namespace Go.Proofs.Ytkbahhackcnnbaa
open Go.V Go
set_option maxRecDepth 100000
set_option linter.unusedSimpArgs false

theorem activeS_st {l : List Tx} {a : Int} (h : (activeS l a).2 = 0) : (activeS l a).1.st = 1 ∧ (activeS l a).1.b = 0 := by
  obtain ⟨hv, i, hi, h1, h2, h3⟩ := activeS_ok h
  have hst : (activeS l a).1.st = 1 := by
    unfold activeS at h ⊢
    split at h
    · simp at h
    · rename_i q1
      split at h
      · simp at h
      · rename_i q2
        split at h
        · simp at h
        · rename_i q3
          rw [if_neg q1, if_neg q2, if_neg q3]
          simpa using q3
  refine ⟨hst, ?_⟩
  have ho := tblB_at hv hi
  rw [h3] at hst ⊢
  simp only [Tx.okB, Tx.hdB, Bool.and_eq_true, Bool.or_eq_true, decide_eq_true_eq] at ho
  omega
set_option maxHeartbeats 2000000 in
theorem rback_v (l : List Tx) (hs : smL l) (a sv : Int) : VCalls Try.prog 32 [.pv (.sl (fz encT l)), .int .i64 a, .int .i64 sv] [] (Ret (tblD (backS l a sv))) := by
  refine VCalls.unwk ?_
  refine vcalls_drop (fn := Try.f32) Try.func32 rfl (by kernel_rfl) (by simp [Try.f32]) ?_
  have c1 := ractive_v l hs a
  have hok := @activeS_ok l a
  have hab := @activeS_st l a
  rw [ractS_two] at c1
  unfold backS
  by_cases hz : (activeS l a).2 = 0
  · obtain ⟨hv, i, hi, h1, h2, h3⟩ := hok hz
    obtain ⟨hst, hb0⟩ := hab hz
    rw [ractS_one hz, h1, hz] at c1
    have hts := okB_len (tblB_at hv hi)
    have hg := fzT_at l i hi
    rw [if_neg (by rw [hz]; simp), h3, h1, Int.toNat_natCast]
    rw [h3] at hst hb0
    have hw := rset_v l hs.1 i hi
    by_cases hr : sv < 0 ∨ ((l[i].s.length : Int) ≤ sv)
    · generalize l[i] = t at *
      obtain ⟨id, st, n, b, q, s⟩ := t
      dsimp only at hr hg ⊢
      rw [if_pos hr]
      simp (config := { maxSteps := 2000000 }) (implicitDefEqProofs := false) (disch := first | omega | assumption | (simp only []; done) | fail) only [go_sem, Nat.reduceAdd, Nat.reduceBEq, Int.reduceAdd, Int.reduceBEq, Try.f32]
      skip
      repeat' (first
        | (refine vrunG_split (fun hZ => ?_) (fun hZ => ?_) <;> (try rw [hZ]) <;> (try simp only [decide_eq_true_eq, decide_eq_false_iff_not, Bool.or_eq_true, Bool.and_eq_true, Bool.or_eq_false_iff, Bool.and_eq_false_imp, Bool.not_eq_true', Bool.not_eq_false', beq_iff_eq, beq_eq_false_iff_ne, bne_iff_ne, bne_eq_false_iff_eq, ne_eq, Bool.not_eq_eq_eq_not, Bool.not_true, Bool.not_false] at hZ) <;> (try (first | rw [(hZ : _ = false)] | rw [(hZ : _ = true)])) <;> (try simp (config := { maxSteps := 2000000 }) (implicitDefEqProofs := false) (disch := first | omega | assumption | (simp only []; done) | fail) only [go_sem, ↓reduceIte, reduceCtorEq, Nat.reduceBEq, Int.reduceBEq]))
        | (refine vbr_split (fun hZ => ?_) (fun hZ => ?_) <;> (try rw [hZ]) <;> (try simp only [decide_eq_true_eq, decide_eq_false_iff_not, Bool.or_eq_true, Bool.and_eq_true, Bool.or_eq_false_iff, Bool.and_eq_false_imp, Bool.not_eq_true', Bool.not_eq_false', beq_iff_eq, beq_eq_false_iff_ne, bne_iff_ne, bne_eq_false_iff_eq, ne_eq, Bool.not_eq_eq_eq_not, Bool.not_true, Bool.not_false] at hZ) <;> (try (first | rw [(hZ : _ = false)] | rw [(hZ : _ = true)])) <;> skip)
        | (refine vdrG_split (fun hZ => ?_) (fun hZ => ?_) <;> (try rw [hZ]) <;> (try simp only [decide_eq_true_eq, decide_eq_false_iff_not, Bool.or_eq_true, Bool.and_eq_true, Bool.or_eq_false_iff, Bool.and_eq_false_imp, Bool.not_eq_true', Bool.not_eq_false', beq_iff_eq, beq_eq_false_iff_ne, bne_iff_ne, bne_eq_false_iff_eq, ne_eq, Bool.not_eq_eq_eq_not, Bool.not_true, Bool.not_false] at hZ) <;> (try (first | rw [(hZ : _ = false)] | rw [(hZ : _ = true)])) <;> skip)
        | (refine vc_pure (c1) rfl ?_; (try simp (config := { maxSteps := 2000000 }) (implicitDefEqProofs := false) (disch := first | omega | assumption | (simp only [List.length_cons, List.length_nil, Nat.zero_add, Nat.reduceAdd]; done) | fail) only [go_sem, V.splice, ↓reduceIte, Nat.reduceAdd, Nat.reduceBEq, Int.reduceAdd, Int.reduceBEq, hg]))
        )
      all_goals first | rfl | (exfalso; omega)
    obtain ⟨k, rfl⟩ : ∃ k : Nat, sv = k := ⟨sv.toNat, by omega⟩
    have hk : k < l[i].s.length := by omega
    rw [if_neg (by omega), Int.toNat_natCast]
    have hw2 := hw (settleS ⟨l[i].id, 2, l[i].n, l[i].s.getD k 0, l[i].l, l[i].s.take (k + 1)⟩)
    generalize l[i] = t at *
    obtain ⟨id, st, n, b, q, s⟩ := t
    dsimp only at hts hg hk hst hb0 hw2 ⊢
    subst hst hb0
    have hse := rsettle_v ⟨id, 2, n, s.getD k 0, q, s.take (k + 1)⟩ ⟨by show q.length ≤ _; omega, by show (s.take (k + 1)).length ≤ _; rw [List.length_take]; omega⟩
    have eS : settleS ⟨id, 2, n, s.getD k 0, q, s.take (k + 1)⟩ = if leftB ⟨id, 1, n, 0, q, s⟩ (s.getD k 0) = true then ⟨id, 2, n, s.getD k 0, q, s.take (k + 1)⟩ else ⟨id, 1, n, 0, q, s.take (k + 1)⟩ := by
      unfold settleS
      have e : leftB ⟨id, 2, n, s.getD k 0, q, s.take (k + 1)⟩ (s.getD k 0) = leftB ⟨id, 1, n, 0, q, s⟩ (s.getD k 0) := rfl
      cases hB : leftB ⟨id, 1, n, 0, q, s⟩ (s.getD k 0)
      · rw [if_pos ⟨rfl, by rw [← hB]; exact e⟩]; rfl
      · rw [if_neg (by rintro ⟨_, h⟩; rw [show leftB ⟨id, 2, n, s.getD k 0, q, s.take (k + 1)⟩ (s.getD k 0) = true from e.trans hB] at h; cases h)]; rfl
    have hgc : ((cells encI (s.take (k + 1))).drop k).take 1 = [.int .i64 (s.getD k 0)] := by
      have hgc : (cells encI (s.take (k + 1)))[k]? = some (.int .i64 (s.getD k 0)) := by
        rw [cellsI_get _ _ (by rw [List.length_take]; omega)]
        simp [List.getD_eq_getElem?_getD, List.getElem?_take]
      obtain ⟨h, e⟩ := List.getElem?_eq_some_iff.1 hgc
      rw [List.drop_eq_getElem_cons h, e]; rfl
    have hgd : (cells encI (s.take (k + 1)))[k]? = some (.int .i64 (s.getD k 0)) := by
      rw [cellsI_get _ _ (by rw [List.length_take]; omega)]
      simp [List.getD_eq_getElem?_getD, List.getElem?_take]
    have hl1 : (s.take (k + 1)).length = k + 1 := by rw [List.length_take]; omega
    have ek : ((k : Int) + 1).toNat = k + 1 := by omega
    have fin : (if leftB ⟨id, 1, n, 0, q, s⟩ (s.getD k 0) = true then (l.set i ⟨id, 2, n, s.getD k 0, q, s.take (k + 1)⟩, (0 : Int)) else (l.set i ⟨id, 1, n, 0, q, s.take (k + 1)⟩, 0)) = (l.set i (settleS ⟨id, 2, n, s.getD k 0, q, s.take (k + 1)⟩), 0) := by
      rw [eS]; split <;> rfl
    rw [fin]
    clear fin eS
    generalize hT : settleS ⟨id, 2, n, s.getD k 0, q, s.take (k + 1)⟩ = T at *
    simp (config := { maxSteps := 2000000 }) (implicitDefEqProofs := false) (disch := first | omega | assumption | (simp only []; done) | fail) only [go_sem, Nat.reduceAdd, Nat.reduceBEq, Int.reduceAdd, Int.reduceBEq, Try.f32]
    skip
    repeat' (first
      | (refine vrunG_split (fun hZ => ?_) (fun hZ => ?_) <;> (try rw [hZ]) <;> (try simp only [decide_eq_true_eq, decide_eq_false_iff_not, Bool.or_eq_true, Bool.and_eq_true, Bool.or_eq_false_iff, Bool.and_eq_false_imp, Bool.not_eq_true', Bool.not_eq_false', beq_iff_eq, beq_eq_false_iff_ne, bne_iff_ne, bne_eq_false_iff_eq, ne_eq, Bool.not_eq_eq_eq_not, Bool.not_true, Bool.not_false] at hZ) <;> (try (first | rw [(hZ : _ = false)] | rw [(hZ : _ = true)])) <;> skip)
      | (refine vbr_split (fun hZ => ?_) (fun hZ => ?_) <;> (try rw [hZ]) <;> (try simp only [decide_eq_true_eq, decide_eq_false_iff_not, Bool.or_eq_true, Bool.and_eq_true, Bool.or_eq_false_iff, Bool.and_eq_false_imp, Bool.not_eq_true', Bool.not_eq_false', beq_iff_eq, beq_eq_false_iff_ne, bne_iff_ne, bne_eq_false_iff_eq, ne_eq, Bool.not_eq_eq_eq_not, Bool.not_true, Bool.not_false] at hZ) <;> (try (first | rw [(hZ : _ = false)] | rw [(hZ : _ = true)])) <;> skip)
      | (refine vdrG_split (fun hZ => ?_) (fun hZ => ?_) <;> (try rw [hZ]) <;> (try simp only [decide_eq_true_eq, decide_eq_false_iff_not, Bool.or_eq_true, Bool.and_eq_true, Bool.or_eq_false_iff, Bool.and_eq_false_imp, Bool.not_eq_true', Bool.not_eq_false', beq_iff_eq, beq_eq_false_iff_ne, bne_iff_ne, bne_eq_false_iff_eq, ne_eq, Bool.not_eq_eq_eq_not, Bool.not_true, Bool.not_false] at hZ) <;> (try (first | rw [(hZ : _ = false)] | rw [(hZ : _ = true)])) <;> skip)
      | (refine vc_giveA [1] _ _ (hse) rfl ⟨⟨by simp, cells_nums _ _ _⟩, trivial⟩ (by decide) rfl (by simp [DV.nums.go, DV.nums]) ?_ ?_; (focus (simp (config := { maxSteps := 2000000 }) (implicitDefEqProofs := false) (disch := first | omega | assumption) only [go_sem, ↓reduceIte, DV.ren, DV.ren.go, List.idxOf_cons, List.getD_cons_succ, List.getD_cons_zero, Tx.d, frzI]; done)); (try simp (config := { maxSteps := 2000000 }) (implicitDefEqProofs := false) (disch := first | omega | assumption | (simp only []; done) | fail) only [go_sem, Nat.reduceLT, Nat.reduceBEq, Int.reduceLT, Int.reduceBEq, Tx.d]))
      | (refine vc_pure (c1) rfl ?_; (try simp (config := { maxSteps := 2000000 }) (implicitDefEqProofs := false) (disch := first | omega | assumption | (simp only [List.length_cons, List.length_nil, Nat.zero_add, Nat.reduceAdd]; done) | fail) only [go_sem, V.splice, ↓reduceIte, reduceCtorEq, Nat.reduceAdd, Nat.reduceLT, Nat.reduceBEq, Int.reduceLT, Int.reduceAdd, Int.reduceBEq, hg, slkI, srcI, mem_ok, hl1, ek]))
      | (refine vc_pure (hw2) rfl ?_; (try simp (config := { maxSteps := 2000000 }) (implicitDefEqProofs := false) (disch := first | omega | assumption | (simp only []; done) | fail) only [go_sem, Nat.reduceBEq, Int.reduceBEq]))
      | (refine vspine (id := 8) [0, 1, 2, 3, 4, 5] [⟨[], [], 6, [2, 3, 4], [7]⟩, ⟨[], [], 8, [], []⟩] (by kernel_rfl) (by kernel_rfl) ?_; (try simp (config := { maxSteps := 2000000 }) (implicitDefEqProofs := false) (disch := first | omega | assumption | (simp only []; done) | fail) only [go_sem, ↓reduceIte, reduceCtorEq, Nat.reduceAdd, Nat.reduceBEq, Int.reduceAdd, Int.reduceBEq, hgd]))
      )
    all_goals first | rfl | skip
  · generalize activeS l a = r at *
    generalize (ractS l a).1 = j at *
    rw [if_pos hz]
    simp (config := { maxSteps := 2000000 }) (implicitDefEqProofs := false) (disch := first | omega | assumption | (simp only []; done) | fail) only [go_sem, Nat.reduceAdd, Nat.reduceBEq, Int.reduceAdd, Int.reduceBEq, Try.f32]
    skip
    repeat' (first
      | (refine vrunG_split (fun hZ => ?_) (fun hZ => ?_) <;> (try rw [hZ]) <;> (try simp only [decide_eq_true_eq, decide_eq_false_iff_not, Bool.or_eq_true, Bool.and_eq_true, Bool.or_eq_false_iff, Bool.and_eq_false_imp, Bool.not_eq_true', Bool.not_eq_false', beq_iff_eq, beq_eq_false_iff_ne, bne_iff_ne, bne_eq_false_iff_eq, ne_eq, Bool.not_eq_eq_eq_not, Bool.not_true, Bool.not_false] at hZ) <;> (try (first | rw [(hZ : _ = false)] | rw [(hZ : _ = true)])) <;> skip)
      | (refine vbr_split (fun hZ => ?_) (fun hZ => ?_) <;> (try rw [hZ]) <;> (try simp only [decide_eq_true_eq, decide_eq_false_iff_not, Bool.or_eq_true, Bool.and_eq_true, Bool.or_eq_false_iff, Bool.and_eq_false_imp, Bool.not_eq_true', Bool.not_eq_false', beq_iff_eq, beq_eq_false_iff_ne, bne_iff_ne, bne_eq_false_iff_eq, ne_eq, Bool.not_eq_eq_eq_not, Bool.not_true, Bool.not_false] at hZ) <;> (try (first | rw [(hZ : _ = false)] | rw [(hZ : _ = true)])) <;> skip)
      | (refine vdrG_split (fun hZ => ?_) (fun hZ => ?_) <;> (try rw [hZ]) <;> (try simp only [decide_eq_true_eq, decide_eq_false_iff_not, Bool.or_eq_true, Bool.and_eq_true, Bool.or_eq_false_iff, Bool.and_eq_false_imp, Bool.not_eq_true', Bool.not_eq_false', beq_iff_eq, beq_eq_false_iff_ne, bne_iff_ne, bne_eq_false_iff_eq, ne_eq, Bool.not_eq_eq_eq_not, Bool.not_true, Bool.not_false] at hZ) <;> (try (first | rw [(hZ : _ = false)] | rw [(hZ : _ = true)])) <;> skip)
      | (refine vc_pure (c1) rfl ?_; (try simp (config := { maxSteps := 2000000 }) (implicitDefEqProofs := false) (disch := first | omega | assumption | (simp only []; done) | fail) only [go_sem, Nat.reduceBEq, Int.reduceBEq]))
      )
    all_goals first | rfl | contradiction | skip
theorem ints_v (l : List Int) (hl : l.length ≤ 9223372036854775807) : VCalls Try.prog 47 [.pv (.sl (fz encI l)), .pv (.sl (fz encI l))] [] (Ret (.bool true)) := by
  refine vcalls_drop (fn := Try.f47) Try.func47 rfl (by kernel_rfl) (by simp [Try.f47]) ?_
  simp (config := { maxSteps := 2000000 }) (implicitDefEqProofs := false) (disch := first | omega | assumption | (simp only []; done) | fail) only [go_sem, Nat.reduceAdd, Nat.reduceBEq, Int.reduceAdd, Int.reduceBEq, Try.f47]
  refine vloopW (fun s : To l.length => ⟨26, 0, [(5, .int .i64 s.i), (0, .pv (.sl (fz encI l))), (1, .pv (.sl (fz encI l)))], []⟩) (fun s => l.length - s.i) ⟨0, Nat.zero_le _⟩ (by refine gc_of (keep := []) rfl rfl rfl (by decide) ?_ ?_ <;> (repeat' apply And.intro) <;> first | trivial | rfl | exact ⟨_, rfl, rfl, rfl, .inl ⟨rfl, rfl⟩⟩ | exact ⟨_, rfl, rfl, rfl, .inl ⟨cells_nums _ _ _, rfl⟩⟩ | exact ⟨_, rfl, rfl, rfl, .inl ⟨pvs_nums _ _, rfl⟩⟩ | exact ⟨_, rfl, rfl, rfl, .inr ⟨rfl, rfl⟩⟩) ?_
  intro s
  have hi := s.hi
  have hg := fun h : s.i < l.length => fzI_get l s.i h
  (try simp (config := { maxSteps := 2000000 }) (implicitDefEqProofs := false) (disch := first | omega | assumption | (simp only []; done) | fail) only [go_sem, Nat.reduceBEq, Int.reduceBEq])
  repeat' (first
    | (refine vrunG_split (fun hZ => ?_) (fun hZ => ?_) <;> (try rw [hZ]) <;> (try simp only [decide_eq_true_eq, decide_eq_false_iff_not, Bool.or_eq_true, Bool.and_eq_true, Bool.or_eq_false_iff, Bool.and_eq_false_imp, Bool.not_eq_true', Bool.not_eq_false', beq_iff_eq, beq_eq_false_iff_ne, bne_iff_ne, bne_eq_false_iff_eq, ne_eq, Bool.not_eq_eq_eq_not, Bool.not_true, Bool.not_false] at hZ) <;> (try (first | rw [(hZ : _ = false)] | rw [(hZ : _ = true)])) <;> skip)
    | (refine vbr_split (fun hZ => ?_) (fun hZ => ?_) <;> (try rw [hZ]) <;> (try simp only [decide_eq_true_eq, decide_eq_false_iff_not, Bool.or_eq_true, Bool.and_eq_true, Bool.or_eq_false_iff, Bool.and_eq_false_imp, Bool.not_eq_true', Bool.not_eq_false', beq_iff_eq, beq_eq_false_iff_ne, bne_iff_ne, bne_eq_false_iff_eq, ne_eq, Bool.not_eq_eq_eq_not, Bool.not_true, Bool.not_false] at hZ) <;> (try (first | rw [(hZ : _ = false)] | rw [(hZ : _ = true)])) <;> (try simp (config := { maxSteps := 2000000 }) (implicitDefEqProofs := false) (disch := first | omega | assumption | (simp only []; done) | fail) only [go_sem, ↓reduceIte]))
    | (refine vdrG_split (fun hZ => ?_) (fun hZ => ?_) <;> (try rw [hZ]) <;> (try simp only [decide_eq_true_eq, decide_eq_false_iff_not, Bool.or_eq_true, Bool.and_eq_true, Bool.or_eq_false_iff, Bool.and_eq_false_imp, Bool.not_eq_true', Bool.not_eq_false', beq_iff_eq, beq_eq_false_iff_ne, bne_iff_ne, bne_eq_false_iff_eq, ne_eq, Bool.not_eq_eq_eq_not, Bool.not_true, Bool.not_false] at hZ) <;> (try (first | rw [(hZ : _ = false)] | rw [(hZ : _ = true)])) <;> skip)
    | (refine vspine (id := 6) [0, 1, 2, 3, 4, 5, 6, 7, 8] [] (by kernel_rfl) (by kernel_rfl) ?_; (try simp (config := { maxSteps := 2000000 }) (implicitDefEqProofs := false) (disch := first | omega | assumption | (simp only [List.length_cons, List.length_nil, Nat.zero_add]; done) | fail) only [go_sem, Nat.reduceLT, Nat.reduceBEq, Int.reduceLT, Int.reduceBEq, hg]))
    )
  all_goals exact ⟨⟨s.i + 1, by omega⟩, by show l.length - (s.i + 1) < l.length - s.i; omega, (by refine gc_of (keep := []) rfl rfl rfl (by decide) ?_ ?_ <;> (repeat' apply And.intro) <;> first | trivial | rfl | exact ⟨_, rfl, rfl, rfl, .inl ⟨rfl, rfl⟩⟩ | exact ⟨_, rfl, rfl, rfl, .inl ⟨cells_nums _ _ _, rfl⟩⟩ | exact ⟨_, rfl, rfl, rfl, .inl ⟨pvs_nums _ _, rfl⟩⟩ | exact ⟨_, rfl, rfl, rfl, .inr ⟨rfl, rfl⟩⟩)⟩
set_option maxHeartbeats 1000000 in
theorem same_v (l : List Tx) (hs : smL l) : VCalls Try.prog 16 [.pv (.sl (fz encT l)), .pv (.sl (fz encT l))] [] (Ret (.bool true)) := by
  refine vcalls_drop (fn := Try.f16) Try.func16 rfl (by kernel_rfl) (by simp [Try.f16]) ?_
  obtain ⟨hl, hm⟩ := hs
  simp (config := { maxSteps := 2000000 }) (implicitDefEqProofs := false) (disch := first | omega | assumption | (simp only []; done) | fail) only [go_sem, Nat.reduceAdd, Nat.reduceBEq, Int.reduceAdd, Int.reduceBEq, Try.f16]
  refine vloopW (fun s : To l.length => ⟨69, 0, [(5, .int .i64 s.i), (0, .pv (.sl (fz encT l))), (1, .pv (.sl (fz encT l)))], []⟩) (fun s => l.length - s.i) ⟨0, Nat.zero_le _⟩ (by refine gc_of (keep := []) rfl rfl rfl (by decide) ?_ ?_ <;> (repeat' apply And.intro) <;> first | trivial | rfl | exact ⟨_, rfl, rfl, rfl, .inl ⟨rfl, rfl⟩⟩ | exact ⟨_, rfl, rfl, rfl, .inl ⟨cells_nums _ _ _, rfl⟩⟩ | exact ⟨_, rfl, rfl, rfl, .inl ⟨pvs_nums _ _, rfl⟩⟩ | exact ⟨_, rfl, rfl, rfl, .inr ⟨rfl, rfl⟩⟩) ?_
  intro s
  have hi := s.hi
  have hg := fun h : s.i < l.length => fzT_at l s.i h
  have h1 := fun h : s.i < l.length => ints_v l[s.i].l (hm _ (List.getElem_mem h)).1
  have h2 := fun h : s.i < l.length => ints_v l[s.i].s (hm _ (List.getElem_mem h)).2
  (try simp (config := { maxSteps := 2000000 }) (implicitDefEqProofs := false) (disch := first | omega | assumption | (simp only []; done) | fail) only [go_sem, Nat.reduceBEq, Int.reduceBEq])
  repeat' (first
    | (refine vrunG_split (fun hZ => ?_) (fun hZ => ?_) <;> (try rw [hZ]) <;> (try simp only [decide_eq_true_eq, decide_eq_false_iff_not, Bool.or_eq_true, Bool.and_eq_true, Bool.or_eq_false_iff, Bool.and_eq_false_imp, Bool.not_eq_true', Bool.not_eq_false', beq_iff_eq, beq_eq_false_iff_ne, bne_iff_ne, bne_eq_false_iff_eq, ne_eq, Bool.not_eq_eq_eq_not, Bool.not_true, Bool.not_false] at hZ) <;> (try (first | rw [(hZ : _ = false)] | rw [(hZ : _ = true)])) <;> skip)
    | (refine vbr_split (fun hZ => ?_) (fun hZ => ?_) <;> (try rw [hZ]) <;> (try simp only [decide_eq_true_eq, decide_eq_false_iff_not, Bool.or_eq_true, Bool.and_eq_true, Bool.or_eq_false_iff, Bool.and_eq_false_imp, Bool.not_eq_true', Bool.not_eq_false', beq_iff_eq, beq_eq_false_iff_ne, bne_iff_ne, bne_eq_false_iff_eq, ne_eq, Bool.not_eq_eq_eq_not, Bool.not_true, Bool.not_false] at hZ) <;> (try (first | rw [(hZ : _ = false)] | rw [(hZ : _ = true)])) <;> (try simp (config := { maxSteps := 2000000 }) (implicitDefEqProofs := false) (disch := first | omega | assumption | (simp only []; done) | fail) only [go_sem, ↓reduceIte]))
    | (refine vdrG_split (fun hZ => ?_) (fun hZ => ?_) <;> (try rw [hZ]) <;> (try simp only [decide_eq_true_eq, decide_eq_false_iff_not, Bool.or_eq_true, Bool.and_eq_true, Bool.or_eq_false_iff, Bool.and_eq_false_imp, Bool.not_eq_true', Bool.not_eq_false', beq_iff_eq, beq_eq_false_iff_ne, bne_iff_ne, bne_eq_false_iff_eq, ne_eq, Bool.not_eq_eq_eq_not, Bool.not_true, Bool.not_false] at hZ) <;> (try (first | rw [(hZ : _ = false)] | rw [(hZ : _ = true)])) <;> skip)
    | (refine vc_pure (h1 (by omega)) rfl ?_; (try simp (config := { maxSteps := 2000000 }) (implicitDefEqProofs := false) (disch := first | omega | assumption | (simp only []; done) | fail) only [go_sem, ↓reduceIte, reduceCtorEq, Nat.reduceBEq, Int.reduceBEq]))
    | (refine vc_pure (h2 (by omega)) rfl ?_; (try simp (config := { maxSteps := 2000000 }) (implicitDefEqProofs := false) (disch := first | omega | assumption | (simp only []; done) | fail) only [go_sem, Nat.reduceLT, Nat.reduceBEq, Int.reduceLT, Int.reduceBEq]))
    | (refine vspine (id := 6) [0, 1, 2, 3, 4, 5, 6, 7] [⟨[8, 9], [8], 10, [4, 5, 6, 7], []⟩, ⟨[9], [9], 11, [], []⟩] (by kernel_rfl) (by kernel_rfl) ?_; (try simp (config := { maxSteps := 2000000 }) (implicitDefEqProofs := false) (disch := first | omega | assumption | (simp only [List.length_cons, List.length_nil, Nat.zero_add, Nat.reduceAdd]; done) | fail) only [go_sem, V.splice, ↓reduceIte, reduceCtorEq, Nat.reduceAdd, Nat.reduceBEq, Int.reduceAdd, Int.reduceBEq, hg]))
    )
  all_goals exact ⟨⟨s.i + 1, by omega⟩, by show l.length - (s.i + 1) < l.length - s.i; omega, (by refine gc_of (keep := []) rfl rfl rfl (by decide) ?_ ?_ <;> (repeat' apply And.intro) <;> first | trivial | rfl | exact ⟨_, rfl, rfl, rfl, .inl ⟨rfl, rfl⟩⟩ | exact ⟨_, rfl, rfl, rfl, .inl ⟨cells_nums _ _ _, rfl⟩⟩ | exact ⟨_, rfl, rfl, rfl, .inl ⟨pvs_nums _ _, rfl⟩⟩ | exact ⟨_, rfl, rfl, rfl, .inr ⟨rfl, rfl⟩⟩)⟩
end Go.Proofs.Ytkbahhackcnnbaa

namespace Go.Proofs.Ytkbahhackcnnbaa
open Go.V Go
set_option maxRecDepth 100000
set_option linter.unusedSimpArgs false

/-- How far a search has come that begins at the front. -/
structure Fr (l : List Tx) (a : Int) where
  j : Nat
  hj : j ≤ l.length
  lt : ∀ k, ∀ h : k < l.length, k < j → l[k].id < a
theorem Fr.fin {l : List Tx} {a : Int} (s : Fr l a) (h : ∀ h : s.j < l.length, ¬ l[s.j].id < a) : posT l a = s.j :=
  lo_eq l _ s.j s.hj (fun k hk hkj => decide_eq_true (s.lt k hk hkj)) (fun hj => decide_eq_false (h hj))
theorem take_len {l : List Tx} {j : Nat} (h : j ≤ l.length) : (l.take j).length = j := by rw [List.length_take]; omega
theorem take_succ_T (l : List Tx) (j : Nat) (h : j < l.length) : cells encT (l.take j) ++ [.pv (.lit (.int .i64 l[j].id)), .pv (.lit (.int .i64 l[j].st)), .pv (.lit (.int .i64 l[j].n)), .pv (.lit (.int .i64 l[j].b)), .pv (.sl (fz encI l[j].l)), .pv (.sl (fz encI l[j].s))] = cells encT (l.take (j + 1)) := by
  rw [app_T, List.take_succ_eq_append_getElem h]
set_option maxHeartbeats 4000000 in
theorem rbegin_v (l : List Tx) (hs : smL l) (a : Int) : VCalls Try.prog 18 [.pv (.sl (fz encT l)), .int .i64 a] [] (Ret (tblD (beginS l a))) := by
  refine VCalls.unwk ?_
  have hl := hs.1
  have c1 := rtvalid_v l hs
  have c2 := rfind0_v l hl a
  have eS : beginS l a = if tblB l = false then ([], 15) else if a < 1 ∨ 1073741824 < a then ([], 1) else if 0 ≤ idT l a then ([], 25) else if l.length = 64 then ([], 21) else (l.take (posT l a) ++ ⟨a, 1, 0, 0, [], []⟩ :: l.drop (posT l a), 0) := rfl
  have hfin := @Fr.fin l a
  have hp : posT l a ≤ l.length := lo_le _ _
  have hsm := @tblB_len l
  generalize idT l a = d at *
  generalize beginS l a = res at *
  generalize tblB l = T at *
  refine vcalls_dropW (fn := Try.f18) (c := bodyc Try.f18) Try.func18 rfl (by kernel_rfl) (by simp [Try.f18]) ?_
  refine vcut 5 ?_
  generalize hrest : restc 5 (bodyc Try.f18) = rest
  simp (config := { maxSteps := 2000000 }) (implicitDefEqProofs := false) (disch := first | omega | assumption | (simp only []; done) | fail) only [go_sem, Nat.reduceAdd, Nat.reduceBEq, Int.reduceAdd, Int.reduceBEq, Try.f18, bodyc, headc_seq, headc_zero]
  skip
  repeat' (first
    | (refine vrunG_split (fun hZ => ?_) (fun hZ => ?_) <;> (try rw [hZ]) <;> (try simp only [decide_eq_true_eq, decide_eq_false_iff_not, Bool.or_eq_true, Bool.and_eq_true, Bool.or_eq_false_iff, Bool.and_eq_false_imp, Bool.not_eq_true', Bool.not_eq_false', beq_iff_eq, beq_eq_false_iff_ne, bne_iff_ne, bne_eq_false_iff_eq, ne_eq, Bool.not_eq_eq_eq_not, Bool.not_true, Bool.not_false] at hZ) <;> (try (first | rw [(hZ : _ = false)] | rw [(hZ : _ = true)])) <;> (try simp (config := { maxSteps := 2000000 }) (implicitDefEqProofs := false) (disch := first | omega | assumption | (simp only []; done) | fail) only [go_sem, Nat.reduceBEq, Int.reduceBEq]))
    | (refine vbr_split (fun hZ => ?_) (fun hZ => ?_) <;> (try rw [hZ]) <;> (try simp only [decide_eq_true_eq, decide_eq_false_iff_not, Bool.or_eq_true, Bool.and_eq_true, Bool.or_eq_false_iff, Bool.and_eq_false_imp, Bool.not_eq_true', Bool.not_eq_false', beq_iff_eq, beq_eq_false_iff_ne, bne_iff_ne, bne_eq_false_iff_eq, ne_eq, Bool.not_eq_eq_eq_not, Bool.not_true, Bool.not_false] at hZ) <;> (try (first | rw [(hZ : _ = false)] | rw [(hZ : _ = true)])) <;> (try simp (config := { maxSteps := 2000000 }) (implicitDefEqProofs := false) (disch := first | omega | assumption | (simp only []; done) | fail) only [go_sem, Nat.reduceBEq, Int.reduceBEq]))
    | (refine vdrG_split (fun hZ => ?_) (fun hZ => ?_) <;> (try rw [hZ]) <;> (try simp only [decide_eq_true_eq, decide_eq_false_iff_not, Bool.or_eq_true, Bool.and_eq_true, Bool.or_eq_false_iff, Bool.and_eq_false_imp, Bool.not_eq_true', Bool.not_eq_false', beq_iff_eq, beq_eq_false_iff_ne, bne_iff_ne, bne_eq_false_iff_eq, ne_eq, Bool.not_eq_eq_eq_not, Bool.not_true, Bool.not_false] at hZ) <;> (try (first | rw [(hZ : _ = false)] | rw [(hZ : _ = true)])) <;> skip)
    | (refine vc_pure (c1) rfl ?_; (try simp (config := { maxSteps := 2000000 }) (implicitDefEqProofs := false) (disch := first | omega | assumption | (simp only []; done) | fail) only [go_sem]))
    | (refine vc_pure (c2) rfl ?_; (try simp (config := { maxSteps := 2000000 }) (implicitDefEqProofs := false) (disch := first | omega | assumption | (simp only []; done) | fail) only [go_sem]))
    )
  all_goals first
    | (rw [eS]; repeat (first | rw [if_pos (by first | assumption | omega)] | rw [if_neg (by first | assumption | omega | (rw [show T = true by assumption]; decide))])
       rfl)
    | skip
  rw [eS]
  repeat (first | rw [if_pos (by first | assumption | omega)] | rw [if_neg (by first | assumption | omega | (rw [show T = true by assumption]; decide))])
  have hsm := hsm (by assumption)
  refine VLoop.nilOwn 6 52 6 rfl ?_
  refine vloopW (fun s : Fr l a => ⟨60, 0, [(7, .int .i64 s.j), (6, .own 0 6 0 s.j), (0, .pv (.sl (fz encT l))), (1, .int .i64 a)], [⟨52, true, cells encT (l.take s.j)⟩]⟩) (fun s => l.length - s.j) ⟨0, Nat.zero_le _, fun k _ h => by omega⟩ (by refine gc_of (keep := [0]) rfl rfl rfl (by decide) ?_ ?_ <;> (repeat' apply And.intro) <;> first | trivial | rfl | exact ⟨_, rfl, rfl, rfl, .inl ⟨rfl, rfl⟩⟩ | exact ⟨_, rfl, rfl, rfl, .inl ⟨cells_nums _ _ _, rfl⟩⟩ | exact ⟨_, rfl, rfl, rfl, .inl ⟨pvs_nums _ _, rfl⟩⟩ | exact ⟨_, rfl, rfl, rfl, .inr ⟨rfl, rfl⟩⟩) ?_
  intro s
  have hj := s.hj
  have hlt := s.lt
  have hf := hfin s
  have htl := take_len s.hj
  have hg := fun h : s.j < l.length => fzT_at l s.j h
  have hts := fun h : s.j < l.length => take_succ_T l s.j h
  have hcl : (cells encT (l.take s.j)).length = s.j * 6 := by rw [lenT, htl]
  have hta : (cells encT (l.take s.j)).take (s.j * 6) = cells encT (l.take s.j) := allT _ _ (by rw [htl]; exact Nat.le_refl _)
  have hb : (s.j + 1) * 80 ≤ 140737488355328 := by omega
  have htx : (cells encT (l.take s.j) ++ ([.pv (.lit (.int .i64 a)), .pv (.lit (.int .i64 1)), .pv (.lit (.int .i64 0)), .pv (.lit (.int .i64 0)), .pv (.slc []), .pv (.slc [])] : List DV)).take ((s.j + 1) * 6) = cells encT (l.take s.j) ++ [.pv (.lit (.int .i64 a)), .pv (.lit (.int .i64 1)), .pv (.lit (.int .i64 0)), .pv (.lit (.int .i64 0)), .pv (.slc []), .pv (.slc [])] := by
    rw [List.take_of_length_le]; rw [List.length_append, hcl]; simp; omega
  have hb2 : (s.j + 1 + (l.length - s.j)) * 80 ≤ 140737488355328 := by omega
  have hb3 : (s.j + 1) * 6 ≤ s.j * 6 + 6 := by omega
  have hw : DV.wk.go (cells encT (l.take s.j) ++ [.pv (.lit (.int .i64 a)), .pv (.lit (.int .i64 1)), .pv (.lit (.int .i64 0)), .pv (.lit (.int .i64 0)), .pv (.slc []), .pv (.slc [])] ++ cells encT (l.drop s.j)) = cells encT (l.take s.j ++ ⟨a, 1, 0, 0, [], []⟩ :: l.drop s.j) := by
    rw [wk_goA, wk_goA, wk_T, wk_T, cells_app, List.append_assoc]
    rfl
  have hfl : (l.take s.j ++ (⟨a, 1, 0, 0, [], []⟩ : Tx) :: l.drop s.j).length = s.j + 1 + (l.length - s.j) := by
    rw [List.length_append, List.length_cons, List.length_drop, htl]; omega
  (try simp (config := { maxSteps := 2000000 }) (implicitDefEqProofs := false) (disch := first | omega | assumption | (simp only []; done) | fail) only [go_sem, Nat.reduceBEq, Int.reduceBEq])
  repeat' (first
    | (refine vrunG_split (fun hZ => ?_) (fun hZ => ?_) <;> (try rw [hZ]) <;> (try simp only [decide_eq_true_eq, decide_eq_false_iff_not, Bool.or_eq_true, Bool.and_eq_true, Bool.or_eq_false_iff, Bool.and_eq_false_imp, Bool.not_eq_true', Bool.not_eq_false', beq_iff_eq, beq_eq_false_iff_ne, bne_iff_ne, bne_eq_false_iff_eq, ne_eq, Bool.not_eq_eq_eq_not, Bool.not_true, Bool.not_false] at hZ) <;> (try (first | rw [(hZ : _ = false)] | rw [(hZ : _ = true)])) <;> (try simp (config := { maxSteps := 2000000 }) (implicitDefEqProofs := false) (disch := first | omega | assumption | (simp only [List.length_cons, List.length_nil, Nat.zero_add, Nat.reduceAdd]; done) | fail) only [go_sem, ↓reduceIte, reduceCtorEq, Nat.reduceBEq, Int.reduceBEq, hg]))
    | (refine vbr_split (fun hZ => ?_) (fun hZ => ?_) <;> (try rw [hZ]) <;> (try simp only [decide_eq_true_eq, decide_eq_false_iff_not, Bool.or_eq_true, Bool.and_eq_true, Bool.or_eq_false_iff, Bool.and_eq_false_imp, Bool.not_eq_true', Bool.not_eq_false', beq_iff_eq, beq_eq_false_iff_ne, bne_iff_ne, bne_eq_false_iff_eq, ne_eq, Bool.not_eq_eq_eq_not, Bool.not_true, Bool.not_false] at hZ) <;> (try (first | rw [(hZ : _ = false)] | rw [(hZ : _ = true)])) <;> (try simp (config := { maxSteps := 2000000 }) (implicitDefEqProofs := false) (disch := first | omega | assumption | (simp only [List.length_cons, List.length_nil, Nat.zero_add, Nat.reduceAdd]; done) | fail) only [go_sem, V.splice, V.mk, ↓reduceIte, Nat.reduceAdd, Nat.reduceLeDiff, Nat.reduceBEq, Int.reduceAdd, Int.reduceBEq, hg, hts, hcl, hta, hb]))
    | (refine vdrG_split (fun hZ => ?_) (fun hZ => ?_) <;> (try rw [hZ]) <;> (try simp only [decide_eq_true_eq, decide_eq_false_iff_not, Bool.or_eq_true, Bool.and_eq_true, Bool.or_eq_false_iff, Bool.and_eq_false_imp, Bool.not_eq_true', Bool.not_eq_false', beq_iff_eq, beq_eq_false_iff_ne, bne_iff_ne, bne_eq_false_iff_eq, ne_eq, Bool.not_eq_eq_eq_not, Bool.not_true, Bool.not_false] at hZ) <;> (try (first | rw [(hZ : _ = false)] | rw [(hZ : _ = true)])) <;> skip)
    | (refine vspine (id := 14) [0, 1, 2, 5, 6, 7, 8] [⟨[3], [3], 4, [1, 2, 5, 6, 7, 8], []⟩, ⟨[], [], 9, [0, 1, 2, 5, 6, 7], []⟩, ⟨[], [], 10, [], []⟩, ⟨[], [], 11, [], []⟩] (by kernel_rfl) (by kernel_rfl) ?_; (try simp (config := { maxSteps := 2000000 }) (implicitDefEqProofs := false) (disch := first | omega | assumption | (simp only []; done) | fail) only [go_sem, V.splice, V.mk, ↓reduceIte, Nat.reduceAdd, Nat.reduceLT, Nat.reduceLeDiff, Nat.reduceBEq, Int.reduceLT, Int.reduceAdd, Int.reduceBEq, hcl, hta, hb, htx, hb2, hb3, slkT, srcT, List.length_append, List.length_drop, List.take_length]))
    )
  all_goals first
    | (refine ⟨⟨s.j + 1, by omega, fun k hk hkj => ?_⟩, by show l.length - (s.j + 1) < l.length - s.j; omega, (by refine gc_of (keep := [2]) rfl rfl rfl (by decide) ?_ ?_ <;> (repeat' apply And.intro) <;> first | trivial | rfl | exact ⟨_, rfl, rfl, rfl, .inl ⟨rfl, rfl⟩⟩ | exact ⟨_, rfl, rfl, rfl, .inl ⟨cells_nums _ _ _, rfl⟩⟩ | exact ⟨_, rfl, rfl, rfl, .inl ⟨pvs_nums _ _, rfl⟩⟩ | exact ⟨_, rfl, rfl, rfl, .inr ⟨rfl, rfl⟩⟩)⟩
       rcases Nat.lt_or_ge k s.j with h | h
       · exact hlt k hk h
       · obtain rfl : k = s.j := by omega
         assumption)
    | (rw [hf (fun h => by first | assumption | omega)]
       refine vcut_wk ?_
       subst hrest
       simp (config := { maxSteps := 2000000 }) (implicitDefEqProofs := false) (disch := first | omega | assumption) only [go_sem, ↓reduceIte, Nat.reduceLT, Nat.reduceBEq, Int.reduceLT, Int.reduceBEq, tmwk_nil, tmwk_cons, hpwk_nil, hpwk_cons, hw, bodyc, restc_seq, restc_zero, Try.f18, frzT hfl]
       rfl)
end Go.Proofs.Ytkbahhackcnnbaa

namespace Go.Proofs.Ytkbahhackcnnbaa
open Go.V Go
set_option maxRecDepth 100000
set_option pp.deepTerms true
set_option pp.deepTerms.threshold 100000
set_option pp.maxSteps 1000000
set_option pp.proofs false
set_option linter.unusedSimpArgs false

theorem filt_succ (q : List Int) (r : Int) (i : Nat) (h : i < q.length) : (q.take (i + 1)).filter (fun x => decide (x ≠ r)) = (q.take i).filter (fun x => decide (x ≠ r)) ++ (if q.getD i 0 = r then [] else [q.getD i 0]) := by
  rw [List.take_succ_eq_append_getElem h, List.filter_append, getD_eq q i h]
  by_cases hx : q[i] = r <;> simp [hx]
theorem filt_le (q : List Int) (r : Int) (i : Nat) : ((q.take i).filter fun x => decide (x ≠ r)).length ≤ i := by
  refine Nat.le_trans (List.length_filter_le _ _) ?_
  rw [List.length_take]; omega
theorem filt_eq (q : List Int) (r : Int) : (q.filter fun x => decide (x ≠ r)).length = q.length ↔ r ∉ q := by
  rw [List.length_filter_eq_length_iff]
  constructor
  · intro h hm; simpa using h r hm
  · intro h x hx; exact decide_eq_true fun e => h (e ▸ hx)
set_option maxHeartbeats 4000000 in
theorem rnote_v (l : List Tx) (hs : smL l) (e : E) : VCalls Try.prog 15 [.pv (.sl (fz encT l)), .agg e.d] [] (Ret (tblD (noteS l e))) := by
  refine VCalls.unwk ?_
  have c1 := rtvalid_v l hs
  have c2 := rvalid_v e
  have c3 := rfind0_v l hs.1 e.tx
  have c4 := rremove_v l hs.1 e.tx
  have hw := fun (i : Nat) (hi : i < l.length) (t : Tx) => rset_v l hs.1 i hi t
  have hok := @okB_kind e
  have hat := @noteS_at l e
  have e0 : noteS l e = if tblB l = false then ([], 15) else if e.okB = false then ([], 12) else if e.tx = 0 then (l, 0) else if idT l e.tx < 0 then ([], 16)
    else noteA l (idT l e.tx).toNat (l.getD (idT l e.tx).toNat Tx0) e := rfl
  by_cases hv : tblB l = true
  rotate_left
  · have hv' : tblB l = false := by simpa using hv
    rw [e0, if_pos hv']
    rw [hv'] at c1
    refine vcalls_drop (fn := Try.f15) Try.func15 rfl (by kernel_rfl) (by simp [Try.f15]) ?_
    unfold E.d
    simp (config := { maxSteps := 2000000 }) (implicitDefEqProofs := false) (disch := first | omega | assumption | (simp only []; done) | fail) only [go_sem, ↓reduceIte, Nat.reduceAdd, Nat.reduceBEq, Int.reduceAdd, Int.reduceBEq, Try.f15]
    skip
    repeat' (first
      | (refine vrunG_split (fun hZ => ?_) (fun hZ => ?_) <;> (try rw [hZ]) <;> (try simp only [decide_eq_true_eq, decide_eq_false_iff_not, Bool.or_eq_true, Bool.and_eq_true, Bool.or_eq_false_iff, Bool.and_eq_false_imp, Bool.not_eq_true', Bool.not_eq_false', beq_iff_eq, beq_eq_false_iff_ne, bne_iff_ne, bne_eq_false_iff_eq, ne_eq, Bool.not_eq_eq_eq_not, Bool.not_true, Bool.not_false] at hZ) <;> (try (first | rw [(hZ : _ = false)] | rw [(hZ : _ = true)])) <;> skip)
      | (refine vbr_split (fun hZ => ?_) (fun hZ => ?_) <;> (try rw [hZ]) <;> (try simp only [decide_eq_true_eq, decide_eq_false_iff_not, Bool.or_eq_true, Bool.and_eq_true, Bool.or_eq_false_iff, Bool.and_eq_false_imp, Bool.not_eq_true', Bool.not_eq_false', beq_iff_eq, beq_eq_false_iff_ne, bne_iff_ne, bne_eq_false_iff_eq, ne_eq, Bool.not_eq_eq_eq_not, Bool.not_true, Bool.not_false] at hZ) <;> (try (first | rw [(hZ : _ = false)] | rw [(hZ : _ = true)])) <;> skip)
      | (refine vdrG_split (fun hZ => ?_) (fun hZ => ?_) <;> (try rw [hZ]) <;> (try simp only [decide_eq_true_eq, decide_eq_false_iff_not, Bool.or_eq_true, Bool.and_eq_true, Bool.or_eq_false_iff, Bool.and_eq_false_imp, Bool.not_eq_true', Bool.not_eq_false', beq_iff_eq, beq_eq_false_iff_ne, bne_iff_ne, bne_eq_false_iff_eq, ne_eq, Bool.not_eq_eq_eq_not, Bool.not_true, Bool.not_false] at hZ) <;> (try (first | rw [(hZ : _ = false)] | rw [(hZ : _ = true)])) <;> skip)
      | (refine vc_pure (c1) rfl ?_; (try simp (config := { maxSteps := 2000000 }) (implicitDefEqProofs := false) (disch := first | omega | assumption | (simp only []; done) | fail) only [go_sem, Nat.reduceBEq, Int.reduceBEq]))
      )
    rfl
  by_cases hk : e.okB = true
  rotate_left
  · have hk' : e.okB = false := by simpa using hk
    rw [e0, if_neg (by rw [hv]; decide), if_pos hk']
    rw [hv] at c1
    rw [hk'] at c2
    unfold E.d at c2 ⊢
    refine vcalls_drop (fn := Try.f15) Try.func15 rfl (by kernel_rfl) (by simp [Try.f15]) ?_
    simp (config := { maxSteps := 2000000 }) (implicitDefEqProofs := false) (disch := first | omega | assumption | (simp only []; done) | fail) only [go_sem, ↓reduceIte, Nat.reduceAdd, Nat.reduceBEq, Int.reduceAdd, Int.reduceBEq, Try.f15]
    skip
    repeat' (first
      | (refine vrunG_split (fun hZ => ?_) (fun hZ => ?_) <;> (try rw [hZ]) <;> (try simp only [decide_eq_true_eq, decide_eq_false_iff_not, Bool.or_eq_true, Bool.and_eq_true, Bool.or_eq_false_iff, Bool.and_eq_false_imp, Bool.not_eq_true', Bool.not_eq_false', beq_iff_eq, beq_eq_false_iff_ne, bne_iff_ne, bne_eq_false_iff_eq, ne_eq, Bool.not_eq_eq_eq_not, Bool.not_true, Bool.not_false] at hZ) <;> (try (first | rw [(hZ : _ = false)] | rw [(hZ : _ = true)])) <;> skip)
      | (refine vbr_split (fun hZ => ?_) (fun hZ => ?_) <;> (try rw [hZ]) <;> (try simp only [decide_eq_true_eq, decide_eq_false_iff_not, Bool.or_eq_true, Bool.and_eq_true, Bool.or_eq_false_iff, Bool.and_eq_false_imp, Bool.not_eq_true', Bool.not_eq_false', beq_iff_eq, beq_eq_false_iff_ne, bne_iff_ne, bne_eq_false_iff_eq, ne_eq, Bool.not_eq_eq_eq_not, Bool.not_true, Bool.not_false] at hZ) <;> (try (first | rw [(hZ : _ = false)] | rw [(hZ : _ = true)])) <;> skip)
      | (refine vdrG_split (fun hZ => ?_) (fun hZ => ?_) <;> (try rw [hZ]) <;> (try simp only [decide_eq_true_eq, decide_eq_false_iff_not, Bool.or_eq_true, Bool.and_eq_true, Bool.or_eq_false_iff, Bool.and_eq_false_imp, Bool.not_eq_true', Bool.not_eq_false', beq_iff_eq, beq_eq_false_iff_ne, bne_iff_ne, bne_eq_false_iff_eq, ne_eq, Bool.not_eq_eq_eq_not, Bool.not_true, Bool.not_false] at hZ) <;> (try (first | rw [(hZ : _ = false)] | rw [(hZ : _ = true)])) <;> skip)
      | (refine vc_pure (c1) rfl ?_; (try simp (config := { maxSteps := 2000000 }) (implicitDefEqProofs := false) (disch := first | omega | assumption | (simp only []; done) | fail) only [go_sem, ↓reduceIte, Nat.reduceAdd, Nat.reduceBEq, Int.reduceAdd, Int.reduceBEq]))
      | (refine vc_pure (c2) rfl ?_; (try simp (config := { maxSteps := 2000000 }) (implicitDefEqProofs := false) (disch := first | omega | assumption | (simp only []; done) | fail) only [go_sem, Nat.reduceBEq, Int.reduceBEq]))
      )
    rfl
  by_cases ht : e.tx = 0
  · rw [e0, if_neg (by rw [hv]; decide), if_neg (by rw [hk]; decide), if_pos ht]
    rw [hv] at c1
    rw [hk] at c2
    unfold E.d at c2 ⊢
    refine vcalls_drop (fn := Try.f15) Try.func15 rfl (by kernel_rfl) (by simp [Try.f15]) ?_
    simp (config := { maxSteps := 2000000 }) (implicitDefEqProofs := false) (disch := first | omega | assumption | (simp only []; done) | fail) only [go_sem, ↓reduceIte, Nat.reduceAdd, Nat.reduceBEq, Int.reduceAdd, Int.reduceBEq, Try.f15]
    (try simp (config := { maxSteps := 2000000 }) (implicitDefEqProofs := false) (disch := first | omega | assumption) only [go_sem, ht])
    repeat' (first
      | (refine vrunG_split (fun hZ => ?_) (fun hZ => ?_) <;> (try rw [hZ]) <;> (try simp only [decide_eq_true_eq, decide_eq_false_iff_not, Bool.or_eq_true, Bool.and_eq_true, Bool.or_eq_false_iff, Bool.and_eq_false_imp, Bool.not_eq_true', Bool.not_eq_false', beq_iff_eq, beq_eq_false_iff_ne, bne_iff_ne, bne_eq_false_iff_eq, ne_eq, Bool.not_eq_eq_eq_not, Bool.not_true, Bool.not_false] at hZ) <;> (try (first | rw [(hZ : _ = false)] | rw [(hZ : _ = true)])) <;> skip)
      | (refine vbr_split (fun hZ => ?_) (fun hZ => ?_) <;> (try rw [hZ]) <;> (try simp only [decide_eq_true_eq, decide_eq_false_iff_not, Bool.or_eq_true, Bool.and_eq_true, Bool.or_eq_false_iff, Bool.and_eq_false_imp, Bool.not_eq_true', Bool.not_eq_false', beq_iff_eq, beq_eq_false_iff_ne, bne_iff_ne, bne_eq_false_iff_eq, ne_eq, Bool.not_eq_eq_eq_not, Bool.not_true, Bool.not_false] at hZ) <;> (try (first | rw [(hZ : _ = false)] | rw [(hZ : _ = true)])) <;> skip)
      | (refine vdrG_split (fun hZ => ?_) (fun hZ => ?_) <;> (try rw [hZ]) <;> (try simp only [decide_eq_true_eq, decide_eq_false_iff_not, Bool.or_eq_true, Bool.and_eq_true, Bool.or_eq_false_iff, Bool.and_eq_false_imp, Bool.not_eq_true', Bool.not_eq_false', beq_iff_eq, beq_eq_false_iff_ne, bne_iff_ne, bne_eq_false_iff_eq, ne_eq, Bool.not_eq_eq_eq_not, Bool.not_true, Bool.not_false] at hZ) <;> (try (first | rw [(hZ : _ = false)] | rw [(hZ : _ = true)])) <;> skip)
      | (refine vc_pure (c1) rfl ?_; (try simp (config := { maxSteps := 2000000 }) (implicitDefEqProofs := false) (disch := first | omega | assumption | (simp only []; done) | fail) only [go_sem, ↓reduceIte, Nat.reduceAdd, Nat.reduceBEq, Int.reduceAdd, Int.reduceBEq]))
      | (refine vc_lendA (c2) ?_ rfl ?_; (focus (simp (config := { maxSteps := 2000000 }) (implicitDefEqProofs := false) (disch := first | omega | assumption) only [go_sem, ht]; done)); (try simp (config := { maxSteps := 2000000 }) (implicitDefEqProofs := false) (disch := first | omega | assumption | (simp only []; done) | fail) only [go_sem, ↓reduceIte, reduceCtorEq, Nat.reduceBEq, Int.reduceBEq]))
      )
    rfl
  rw [hv] at c1
  rw [hk] at c2
  rcases idT_cases l e.tx with h | ⟨i, hi, h, hid⟩
  · rw [e0, if_neg (by rw [hv]; decide), if_neg (by rw [hk]; decide), if_neg ht, h, if_pos (by decide)]
    rw [h] at c3
    unfold E.d at c2 ⊢
    refine vcalls_drop (fn := Try.f15) Try.func15 rfl (by kernel_rfl) (by simp [Try.f15]) ?_
    simp (config := { maxSteps := 2000000 }) (implicitDefEqProofs := false) (disch := first | omega | assumption | (simp only []; done) | fail) only [go_sem, ↓reduceIte, Nat.reduceAdd, Nat.reduceBEq, Int.reduceAdd, Int.reduceBEq, Try.f15]
    skip
    repeat' (first
      | (refine vrunG_split (fun hZ => ?_) (fun hZ => ?_) <;> (try rw [hZ]) <;> (try simp only [decide_eq_true_eq, decide_eq_false_iff_not, Bool.or_eq_true, Bool.and_eq_true, Bool.or_eq_false_iff, Bool.and_eq_false_imp, Bool.not_eq_true', Bool.not_eq_false', beq_iff_eq, beq_eq_false_iff_ne, bne_iff_ne, bne_eq_false_iff_eq, ne_eq, Bool.not_eq_eq_eq_not, Bool.not_true, Bool.not_false] at hZ) <;> (try (first | rw [(hZ : _ = false)] | rw [(hZ : _ = true)])) <;> skip)
      | (refine vbr_split (fun hZ => ?_) (fun hZ => ?_) <;> (try rw [hZ]) <;> (try simp only [decide_eq_true_eq, decide_eq_false_iff_not, Bool.or_eq_true, Bool.and_eq_true, Bool.or_eq_false_iff, Bool.and_eq_false_imp, Bool.not_eq_true', Bool.not_eq_false', beq_iff_eq, beq_eq_false_iff_ne, bne_iff_ne, bne_eq_false_iff_eq, ne_eq, Bool.not_eq_eq_eq_not, Bool.not_true, Bool.not_false] at hZ) <;> (try (first | rw [(hZ : _ = false)] | rw [(hZ : _ = true)])) <;> skip)
      | (refine vdrG_split (fun hZ => ?_) (fun hZ => ?_) <;> (try rw [hZ]) <;> (try simp only [decide_eq_true_eq, decide_eq_false_iff_not, Bool.or_eq_true, Bool.and_eq_true, Bool.or_eq_false_iff, Bool.and_eq_false_imp, Bool.not_eq_true', Bool.not_eq_false', beq_iff_eq, beq_eq_false_iff_ne, bne_iff_ne, bne_eq_false_iff_eq, ne_eq, Bool.not_eq_eq_eq_not, Bool.not_true, Bool.not_false] at hZ) <;> (try (first | rw [(hZ : _ = false)] | rw [(hZ : _ = true)])) <;> skip)
      | (refine vc_pure (c1) rfl ?_; (try simp (config := { maxSteps := 2000000 }) (implicitDefEqProofs := false) (disch := first | omega | assumption | (simp only []; done) | fail) only [go_sem, ↓reduceIte, Nat.reduceAdd, Nat.reduceBEq, Int.reduceAdd, Int.reduceBEq]))
      | (refine vc_pure (c2) rfl ?_; (try simp (config := { maxSteps := 2000000 }) (implicitDefEqProofs := false) (disch := first | omega | assumption | (simp only []; done) | fail) only [go_sem, ↓reduceIte, reduceCtorEq, Nat.reduceBEq, Int.reduceBEq]))
      | (refine vc_pure (c3) rfl ?_; (try simp (config := { maxSteps := 2000000 }) (implicitDefEqProofs := false) (disch := first | omega | assumption | (simp only []; done) | fail) only [go_sem, Nat.reduceLT, Nat.reduceBEq, Int.reduceLT, Int.reduceNeg, Int.reduceBEq]))
      )
    all_goals first | rfl | contradiction
  rw [hat hv hk ht hi h]
  have hkk := hok hk ht
  rw [h] at c3
  have hg := fzT_at l i hi
  have hto := tblB_at hv hi
  have hso := okB_asc hto
  have hle := okB_len hto
  clear hat e0 hok
  generalize hT : l[i] = t at *
  obtain ⟨id, st, n, b, q, s⟩ := t
  dsimp only at hid hso hle hg
  obtain ⟨lsn, kind, tx, ptx, ppg, ref, c, blob⟩ := e
  dsimp only at hid c4 c3 h hkk ht
  unfold E.d at c2 ⊢
  dsimp only at c2 ⊢
  unfold noteA
  dsimp only
  by_cases hp : ptx = n
  rotate_left
  · rw [if_pos (.inl hp)]
    refine vcalls_drop (fn := Try.f15) Try.func15 rfl (by kernel_rfl) (by simp [Try.f15]) ?_
    simp (config := { maxSteps := 2000000 }) (implicitDefEqProofs := false) (disch := first | omega | assumption | (simp only []; done) | fail) only [go_sem, ↓reduceIte, Nat.reduceAdd, Nat.reduceBEq, Int.reduceAdd, Int.reduceBEq, Try.f15]
    skip
    repeat' (first
      | (refine vrunG_split (fun hZ => ?_) (fun hZ => ?_) <;> (try rw [hZ]) <;> (try simp only [decide_eq_true_eq, decide_eq_false_iff_not, Bool.or_eq_true, Bool.and_eq_true, Bool.or_eq_false_iff, Bool.and_eq_false_imp, Bool.not_eq_true', Bool.not_eq_false', beq_iff_eq, beq_eq_false_iff_ne, bne_iff_ne, bne_eq_false_iff_eq, ne_eq, Bool.not_eq_eq_eq_not, Bool.not_true, Bool.not_false] at hZ) <;> (try (first | rw [(hZ : _ = false)] | rw [(hZ : _ = true)])) <;> skip)
      | (refine vbr_split (fun hZ => ?_) (fun hZ => ?_) <;> (try rw [hZ]) <;> (try simp only [decide_eq_true_eq, decide_eq_false_iff_not, Bool.or_eq_true, Bool.and_eq_true, Bool.or_eq_false_iff, Bool.and_eq_false_imp, Bool.not_eq_true', Bool.not_eq_false', beq_iff_eq, beq_eq_false_iff_ne, bne_iff_ne, bne_eq_false_iff_eq, ne_eq, Bool.not_eq_eq_eq_not, Bool.not_true, Bool.not_false] at hZ) <;> (try (first | rw [(hZ : _ = false)] | rw [(hZ : _ = true)])) <;> skip)
      | (refine vdrG_split (fun hZ => ?_) (fun hZ => ?_) <;> (try rw [hZ]) <;> (try simp only [decide_eq_true_eq, decide_eq_false_iff_not, Bool.or_eq_true, Bool.and_eq_true, Bool.or_eq_false_iff, Bool.and_eq_false_imp, Bool.not_eq_true', Bool.not_eq_false', beq_iff_eq, beq_eq_false_iff_ne, bne_iff_ne, bne_eq_false_iff_eq, ne_eq, Bool.not_eq_eq_eq_not, Bool.not_true, Bool.not_false] at hZ) <;> (try (first | rw [(hZ : _ = false)] | rw [(hZ : _ = true)])) <;> skip)
      | (refine vc_pure (c1) rfl ?_; (try simp (config := { maxSteps := 2000000 }) (implicitDefEqProofs := false) (disch := first | omega | assumption | (simp only []; done) | fail) only [go_sem, ↓reduceIte, Nat.reduceAdd, Nat.reduceBEq, Int.reduceAdd, Int.reduceBEq]))
      | (refine vc_pure (c2) rfl ?_; (try simp (config := { maxSteps := 2000000 }) (implicitDefEqProofs := false) (disch := first | omega | assumption | (simp only []; done) | fail) only [go_sem, ↓reduceIte, reduceCtorEq, Nat.reduceBEq, Int.reduceBEq]))
      | (refine vc_pure (c3) rfl ?_; (try simp (config := { maxSteps := 2000000 }) (implicitDefEqProofs := false) (disch := first | omega | assumption | (simp only [List.length_cons, List.length_nil, Nat.zero_add, Nat.reduceAdd]; done) | fail) only [go_sem, V.splice, ↓reduceIte, reduceCtorEq, Nat.reduceAdd, Nat.reduceBEq, Int.reduceAdd, Int.reduceBEq, hg]))
      )
    all_goals first | rfl | contradiction | omega
  subst hp
  rcases hkk with rfl | rfl | rfl | rfl | rfl
  · rw [if_neg (by rintro (h | h); exact h rfl; omega), if_neg (by omega)]
    have hwA := hw i hi (settleS (noteT ⟨id, st, ptx, b, q, s⟩ ⟨lsn, 1, tx, ptx, ppg, ref, c, blob⟩))
    have hse := rsettle_v (noteT ⟨id, st, ptx, b, q, s⟩ ⟨lsn, 1, tx, ptx, ppg, ref, c, blob⟩)
    have eN : noteT ⟨id, st, ptx, b, q, s⟩ ⟨lsn, 1, tx, ptx, ppg, ref, c, blob⟩ = ⟨id, st, lsn, b, q ++ [lsn], s⟩ := rfl
    rw [eN] at hwA hse ⊢
    replace hse := hse ⟨by simp; omega, by show s.length ≤ _; omega⟩
    generalize settleS ⟨id, st, lsn, b, q ++ [lsn], s⟩ = u at *
    refine vcalls_drop (fn := Try.f15) Try.func15 rfl (by kernel_rfl) (by simp [Try.f15]) ?_
    simp (config := { maxSteps := 2000000 }) (implicitDefEqProofs := false) (disch := first | omega | assumption | (simp only []; done) | fail) only [go_sem, ↓reduceIte, Nat.reduceAdd, Nat.reduceBEq, Int.reduceAdd, Int.reduceBEq, Try.f15]
    skip
    repeat' (first
      | (refine vrunG_split (fun hZ => ?_) (fun hZ => ?_) <;> (try rw [hZ]) <;> (try simp only [decide_eq_true_eq, decide_eq_false_iff_not, Bool.or_eq_true, Bool.and_eq_true, Bool.or_eq_false_iff, Bool.and_eq_false_imp, Bool.not_eq_true', Bool.not_eq_false', beq_iff_eq, beq_eq_false_iff_ne, bne_iff_ne, bne_eq_false_iff_eq, ne_eq, Bool.not_eq_eq_eq_not, Bool.not_true, Bool.not_false] at hZ) <;> (try (first | rw [(hZ : _ = false)] | rw [(hZ : _ = true)])) <;> skip)
      | (refine vbr_split (fun hZ => ?_) (fun hZ => ?_) <;> (try rw [hZ]) <;> (try simp only [decide_eq_true_eq, decide_eq_false_iff_not, Bool.or_eq_true, Bool.and_eq_true, Bool.or_eq_false_iff, Bool.and_eq_false_imp, Bool.not_eq_true', Bool.not_eq_false', beq_iff_eq, beq_eq_false_iff_ne, bne_iff_ne, bne_eq_false_iff_eq, ne_eq, Bool.not_eq_eq_eq_not, Bool.not_true, Bool.not_false] at hZ) <;> (try (first | rw [(hZ : _ = false)] | rw [(hZ : _ = true)])) <;> skip)
      | (refine vdrG_split (fun hZ => ?_) (fun hZ => ?_) <;> (try rw [hZ]) <;> (try simp only [decide_eq_true_eq, decide_eq_false_iff_not, Bool.or_eq_true, Bool.and_eq_true, Bool.or_eq_false_iff, Bool.and_eq_false_imp, Bool.not_eq_true', Bool.not_eq_false', beq_iff_eq, beq_eq_false_iff_ne, bne_iff_ne, bne_eq_false_iff_eq, ne_eq, Bool.not_eq_eq_eq_not, Bool.not_true, Bool.not_false] at hZ) <;> (try (first | rw [(hZ : _ = false)] | rw [(hZ : _ = true)])) <;> skip)
      | (refine vc_giveA [4] _ _ (hse) rfl ⟨⟨by simp, cells_nums _ _ _⟩, trivial⟩ (by decide) rfl (by simp [DV.nums.go, DV.nums]) ?_ ?_; (focus (simp (config := { maxSteps := 2000000 }) (implicitDefEqProofs := false) (disch := first | omega | assumption | (simp only [List.length_append, List.length_cons, List.length_nil] <;> omega) | fail) only [go_sem, ↓reduceIte, DV.ren, DV.ren.go, List.idxOf_cons, List.getD_cons_succ, List.getD_cons_zero, Tx.d, frzI]; done)); (try simp (config := { maxSteps := 2000000 }) (implicitDefEqProofs := false) (disch := first | omega | assumption | (simp only []; done) | fail) only [go_sem, Nat.reduceLT, Nat.reduceBEq, Int.reduceLT, Int.reduceBEq, Tx.d]))
      | (refine vc_pure (c1) rfl ?_; (try simp (config := { maxSteps := 2000000 }) (implicitDefEqProofs := false) (disch := first | omega | assumption | (simp only []; done) | fail) only [go_sem, ↓reduceIte, Nat.reduceAdd, Nat.reduceBEq, Int.reduceAdd, Int.reduceBEq]))
      | (refine vc_pure (c2) rfl ?_; (try simp (config := { maxSteps := 2000000 }) (implicitDefEqProofs := false) (disch := first | omega | assumption | (simp only []; done) | fail) only [go_sem, ↓reduceIte, reduceCtorEq, Nat.reduceBEq, Int.reduceBEq]))
      | (refine vc_pure (c3) rfl ?_; (try simp (config := { maxSteps := 2000000 }) (implicitDefEqProofs := false) (disch := first | omega | assumption | (simp only [List.length_cons, List.length_nil, Nat.zero_add, Nat.reduceAdd]; done) | fail) only [go_sem, V.splice, ↓reduceIte, reduceCtorEq, Nat.reduceAdd, Nat.reduceBEq, Int.reduceAdd, Int.reduceBEq, hg]))
      | (refine vc_pure (hwA) rfl ?_; (try simp (config := { maxSteps := 2000000 }) (implicitDefEqProofs := false) (disch := first | omega | assumption | (simp only []; done) | fail) only [go_sem, Nat.reduceBEq, Int.reduceBEq]))
      | (refine vspine (id := 17) [0, 1, 3, 4] [⟨[5], [], 2, [0, 3, 4], []⟩, ⟨[5], [5], 6, [0, 1, 3, 4], [7]⟩, ⟨[], [], 8, [], []⟩] (by kernel_rfl) (by kernel_rfl) ?_; (try simp (config := { maxSteps := 2000000 }) (implicitDefEqProofs := false) (disch := first | omega | assumption | (simp only []; done) | fail) only [go_sem, V.splice, V.mk, ↓reduceIte, reduceCtorEq, Nat.reduceAdd, Nat.reduceLT, Nat.reduceLeDiff, Nat.reduceBEq, Int.reduceLT, Int.reduceAdd, Int.reduceBEq, lenI, allI, srcI, mem_ok, app_I]))
      )
    all_goals first | rfl | skip
  · refine vcalls_drop (fn := Try.f15) Try.func15 rfl (by kernel_rfl) (by simp [Try.f15]) ?_
    simp (config := { maxSteps := 2000000 }) (implicitDefEqProofs := false) (disch := first | omega | assumption | (simp only []; done) | fail) only [go_sem, ↓reduceIte, Nat.reduceAdd, Nat.reduceBEq, Int.reduceAdd, Int.reduceEq, Int.reduceBEq, Try.f15]
    skip
    repeat' (first
      | (refine vrunG_split (fun hZ => ?_) (fun hZ => ?_) <;> (try rw [hZ]) <;> (try simp only [decide_eq_true_eq, decide_eq_false_iff_not, Bool.or_eq_true, Bool.and_eq_true, Bool.or_eq_false_iff, Bool.and_eq_false_imp, Bool.not_eq_true', Bool.not_eq_false', beq_iff_eq, beq_eq_false_iff_ne, bne_iff_ne, bne_eq_false_iff_eq, ne_eq, Bool.not_eq_eq_eq_not, Bool.not_true, Bool.not_false] at hZ) <;> (try (first | rw [(hZ : _ = false)] | rw [(hZ : _ = true)])) <;> skip)
      | (refine vbr_split (fun hZ => ?_) (fun hZ => ?_) <;> (try rw [hZ]) <;> (try simp only [decide_eq_true_eq, decide_eq_false_iff_not, Bool.or_eq_true, Bool.and_eq_true, Bool.or_eq_false_iff, Bool.and_eq_false_imp, Bool.not_eq_true', Bool.not_eq_false', beq_iff_eq, beq_eq_false_iff_ne, bne_iff_ne, bne_eq_false_iff_eq, ne_eq, Bool.not_eq_eq_eq_not, Bool.not_true, Bool.not_false] at hZ) <;> (try (first | rw [(hZ : _ = false)] | rw [(hZ : _ = true)])) <;> skip)
      | (refine vdrG_split (fun hZ => ?_) (fun hZ => ?_) <;> (try rw [hZ]) <;> (try simp only [decide_eq_true_eq, decide_eq_false_iff_not, Bool.or_eq_true, Bool.and_eq_true, Bool.or_eq_false_iff, Bool.and_eq_false_imp, Bool.not_eq_true', Bool.not_eq_false', beq_iff_eq, beq_eq_false_iff_ne, bne_iff_ne, bne_eq_false_iff_eq, ne_eq, Bool.not_eq_eq_eq_not, Bool.not_true, Bool.not_false] at hZ) <;> (try (first | rw [(hZ : _ = false)] | rw [(hZ : _ = true)])) <;> skip)
      | (refine vc_pure (c1) rfl ?_; (try simp (config := { maxSteps := 2000000 }) (implicitDefEqProofs := false) (disch := first | omega | assumption | (simp only []; done) | fail) only [go_sem, ↓reduceIte, Nat.reduceAdd, Nat.reduceBEq, Int.reduceAdd, Int.reduceBEq]))
      | (refine vc_pure (c2) rfl ?_; (try simp (config := { maxSteps := 2000000 }) (implicitDefEqProofs := false) (disch := first | omega | assumption | (simp only []; done) | fail) only [go_sem, ↓reduceIte, reduceCtorEq, Nat.reduceBEq, Int.reduceBEq]))
      | (refine vc_pure (c3) rfl ?_; (try simp (config := { maxSteps := 2000000 }) (implicitDefEqProofs := false) (disch := first | omega | assumption | (simp only [List.length_cons, List.length_nil, Nat.zero_add, Nat.reduceAdd]; done) | fail) only [go_sem, V.splice, ↓reduceIte, reduceCtorEq, Nat.reduceAdd, Nat.reduceBEq, Int.reduceAdd, Int.reduceBEq, hg]))
      )
    rotate_left
    all_goals first | contradiction | skip
    refine VLoop.nilOwn 8 3 1 rfl ?_
    refine vloopW (fun s0 : To q.length => ⟨100, 0, [(9, .int .i64 s0.i), (8, .own 2 1 0 ((q.take s0.i).filter fun x => decide (x ≠ ref)).length), (7, .ptr 1 0), (6, .int .i64 i), (3, .ptr 0 0), (0, .pv (.sl (fz encT l)))],
      [⟨29, true, [.int .i64 lsn, .int .i64 2, .int .i64 tx, .int .i64 ptx, .int .i64 ppg, .int .i64 ref, .int .i64 c.pg, .int .i64 c.sl, .bool c.b.set, .pv (.str c.b.data), .bool c.a.set, .pv (.str c.a.data), .pv (.str blob)]⟩,
       ⟨52, true, [.int .i64 id, .int .i64 st, .int .i64 lsn, .int .i64 b, .pv (.sl (fz encI q)), .pv (.sl (fz encI s))]⟩,
       ⟨3, true, cells encI ((q.take s0.i).filter fun x => decide (x ≠ ref))⟩]⟩) (fun s0 => q.length - s0.i) ⟨0, Nat.zero_le _⟩ (by refine gc_of (keep := [0, 1, 2]) rfl rfl rfl (by decide) ?_ ?_ <;> (repeat' apply And.intro) <;> first | trivial | rfl | exact ⟨_, rfl, rfl, rfl, .inl ⟨rfl, rfl⟩⟩ | exact ⟨_, rfl, rfl, rfl, .inl ⟨cells_nums _ _ _, rfl⟩⟩ | exact ⟨_, rfl, rfl, rfl, .inl ⟨pvs_nums _ _, rfl⟩⟩ | exact ⟨_, rfl, rfl, rfl, .inr ⟨rfl, rfl⟩⟩) ?_
    intro s0
    have hi0 := s0.hi
    have hgq := fun h : s0.i < q.length => fzI_get q s0.i h
    have hfl := filt_le q ref s0.i
    have hfs := filt_succ q ref s0.i
    have hwA := hw i hi (settleS (noteT ⟨id, st, ptx, b, q, s⟩ ⟨lsn, 2, tx, ptx, ppg, ref, c, blob⟩))
    have hse := rsettle_v (noteT ⟨id, st, ptx, b, q, s⟩ ⟨lsn, 2, tx, ptx, ppg, ref, c, blob⟩)
    have eN : noteT ⟨id, st, ptx, b, q, s⟩ ⟨lsn, 2, tx, ptx, ppg, ref, c, blob⟩ = ⟨id, st, lsn, b, q.filter fun x => decide (x ≠ ref), s⟩ := rfl
    have hfq := filt_eq q ref
    rw [eN] at hwA hse ⊢
    have hfl2 : (q.filter fun x => decide (x ≠ ref)).length ≤ q.length := List.length_filter_le _ _
    replace hse := hse ⟨by show (q.filter fun x => decide (x ≠ ref)).length ≤ _; omega, by show s.length ≤ _; omega⟩
    by_cases hc : s0.i < q.length
    · replace hfs := hfs hc
      generalize ((q.take s0.i).filter fun x => decide (x ≠ ref)) = out at *
      have hb : (out.length + 1) * 8 ≤ 140737488355328 := by omega
      (try simp (config := { maxSteps := 2000000 }) (implicitDefEqProofs := false) (disch := first | omega | assumption | (simp only []; done) | fail) only [go_sem, ↓reduceIte, reduceCtorEq, Nat.reduceBEq, Int.reduceBEq])
      repeat' (first
        | (refine vrunG_split (fun hZ => ?_) (fun hZ => ?_) <;> (try rw [hZ]) <;> (try simp only [decide_eq_true_eq, decide_eq_false_iff_not, Bool.or_eq_true, Bool.and_eq_true, Bool.or_eq_false_iff, Bool.and_eq_false_imp, Bool.not_eq_true', Bool.not_eq_false', beq_iff_eq, beq_eq_false_iff_ne, bne_iff_ne, bne_eq_false_iff_eq, ne_eq, Bool.not_eq_eq_eq_not, Bool.not_true, Bool.not_false] at hZ) <;> (try (first | rw [(hZ : _ = false)] | rw [(hZ : _ = true)])) <;> skip)
        | (refine vbr_split (fun hZ => ?_) (fun hZ => ?_) <;> (try rw [hZ]) <;> (try simp only [decide_eq_true_eq, decide_eq_false_iff_not, Bool.or_eq_true, Bool.and_eq_true, Bool.or_eq_false_iff, Bool.and_eq_false_imp, Bool.not_eq_true', Bool.not_eq_false', beq_iff_eq, beq_eq_false_iff_ne, bne_iff_ne, bne_eq_false_iff_eq, ne_eq, Bool.not_eq_eq_eq_not, Bool.not_true, Bool.not_false] at hZ) <;> (try (first | rw [(hZ : _ = false)] | rw [(hZ : _ = true)])) <;> (try simp (config := { maxSteps := 2000000 }) (implicitDefEqProofs := false) (disch := first | omega | assumption | (simp only [List.length_cons, List.length_nil, Nat.zero_add]; done) | fail) only [go_sem, V.splice, V.mk, ↓reduceIte, reduceCtorEq, Nat.reduceAdd, Nat.reduceLT, Nat.reduceLeDiff, Nat.reduceBEq, Int.reduceLT, Int.reduceAdd, Int.reduceBEq, hgq, lenI, allI, app_I, hb]))
        | (refine vdrG_split (fun hZ => ?_) (fun hZ => ?_) <;> (try rw [hZ]) <;> (try simp only [decide_eq_true_eq, decide_eq_false_iff_not, Bool.or_eq_true, Bool.and_eq_true, Bool.or_eq_false_iff, Bool.and_eq_false_imp, Bool.not_eq_true', Bool.not_eq_false', beq_iff_eq, beq_eq_false_iff_ne, bne_iff_ne, bne_eq_false_iff_eq, ne_eq, Bool.not_eq_eq_eq_not, Bool.not_true, Bool.not_false] at hZ) <;> (try (first | rw [(hZ : _ = false)] | rw [(hZ : _ = true)])) <;> skip)
        | (refine vspine (id := 23) [0, 1, 2, 3, 4, 5, 6, 7] [] (by kernel_rfl) (by kernel_rfl) ?_; (try simp (config := { maxSteps := 2000000 }) (implicitDefEqProofs := false) (disch := first | omega | assumption | (simp only [List.length_cons, List.length_nil, Nat.zero_add]; done) | fail) only [go_sem, ↓reduceIte, reduceCtorEq, Nat.reduceBEq, Int.reduceBEq, hgq]))
        )
      · have hf2 : (q.take (s0.i + 1)).filter (fun x => decide ¬x = ref) = out ++ [q.getD s0.i 0] := by rw [if_neg (by assumption)] at hfs; exact hfs
        refine ⟨⟨s0.i + 1, by omega⟩, by show q.length - (s0.i + 1) < q.length - s0.i; omega, ?_⟩
        dsimp only
        rw [hf2, List.length_append]
        exact (by refine gc_of (keep := [0, 1, 4]) rfl rfl rfl (by decide) ?_ ?_ <;> (repeat' apply And.intro) <;> first | trivial | rfl | exact ⟨_, rfl, rfl, rfl, .inl ⟨rfl, rfl⟩⟩ | exact ⟨_, rfl, rfl, rfl, .inl ⟨cells_nums _ _ _, rfl⟩⟩ | exact ⟨_, rfl, rfl, rfl, .inl ⟨pvs_nums _ _, rfl⟩⟩ | exact ⟨_, rfl, rfl, rfl, .inr ⟨rfl, rfl⟩⟩)
      · have hf2 : (q.take (s0.i + 1)).filter (fun x => decide ¬x = ref) = out := by rw [if_pos (by assumption), List.append_nil] at hfs; exact hfs
        refine ⟨⟨s0.i + 1, by omega⟩, by show q.length - (s0.i + 1) < q.length - s0.i; omega, ?_⟩
        dsimp only
        rw [hf2]
        exact (by refine gc_of (keep := [0, 1, 2]) rfl rfl rfl (by decide) ?_ ?_ <;> (repeat' apply And.intro) <;> first | trivial | rfl | exact ⟨_, rfl, rfl, rfl, .inl ⟨rfl, rfl⟩⟩ | exact ⟨_, rfl, rfl, rfl, .inl ⟨cells_nums _ _ _, rfl⟩⟩ | exact ⟨_, rfl, rfl, rfl, .inl ⟨pvs_nums _ _, rfl⟩⟩ | exact ⟨_, rfl, rfl, rfl, .inr ⟨rfl, rfl⟩⟩)
    · rw [List.take_of_length_le (by omega)] at *
      generalize (q.filter fun x => decide (x ≠ ref)) = out at *
      generalize settleS ⟨id, st, lsn, b, out, s⟩ = u at *
      (try simp (config := { maxSteps := 2000000 }) (implicitDefEqProofs := false) (disch := first | omega | assumption | (simp only []; done) | fail) only [go_sem, ↓reduceIte, reduceCtorEq, Nat.reduceBEq, Int.reduceBEq])
      repeat' (first
        | (refine vrunG_split (fun hZ => ?_) (fun hZ => ?_) <;> (try rw [hZ]) <;> (try simp only [decide_eq_true_eq, decide_eq_false_iff_not, Bool.or_eq_true, Bool.and_eq_true, Bool.or_eq_false_iff, Bool.and_eq_false_imp, Bool.not_eq_true', Bool.not_eq_false', beq_iff_eq, beq_eq_false_iff_ne, bne_iff_ne, bne_eq_false_iff_eq, ne_eq, Bool.not_eq_eq_eq_not, Bool.not_true, Bool.not_false] at hZ) <;> (try (first | rw [(hZ : _ = false)] | rw [(hZ : _ = true)])) <;> skip)
        | (refine vbr_split (fun hZ => ?_) (fun hZ => ?_) <;> (try rw [hZ]) <;> (try simp only [decide_eq_true_eq, decide_eq_false_iff_not, Bool.or_eq_true, Bool.and_eq_true, Bool.or_eq_false_iff, Bool.and_eq_false_imp, Bool.not_eq_true', Bool.not_eq_false', beq_iff_eq, beq_eq_false_iff_ne, bne_iff_ne, bne_eq_false_iff_eq, ne_eq, Bool.not_eq_eq_eq_not, Bool.not_true, Bool.not_false] at hZ) <;> (try (first | rw [(hZ : _ = false)] | rw [(hZ : _ = true)])) <;> (try simp (config := { maxSteps := 2000000 }) (implicitDefEqProofs := false) (disch := first | omega | assumption | (simp only []; done) | fail) only [go_sem, ↓reduceIte, reduceCtorEq, Nat.reduceAdd, Nat.reduceBEq, Int.reduceAdd, Int.reduceBEq]))
        | (refine vdrG_split (fun hZ => ?_) (fun hZ => ?_) <;> (try rw [hZ]) <;> (try simp only [decide_eq_true_eq, decide_eq_false_iff_not, Bool.or_eq_true, Bool.and_eq_true, Bool.or_eq_false_iff, Bool.and_eq_false_imp, Bool.not_eq_true', Bool.not_eq_false', beq_iff_eq, beq_eq_false_iff_ne, bne_iff_ne, bne_eq_false_iff_eq, ne_eq, Bool.not_eq_eq_eq_not, Bool.not_true, Bool.not_false] at hZ) <;> (try (first | rw [(hZ : _ = false)] | rw [(hZ : _ = true)])) <;> skip)
        | (refine vc_giveA [2] _ _ (hse) rfl ⟨⟨by simp, cells_nums _ _ _⟩, trivial⟩ (by decide) rfl (by simp [DV.nums.go, DV.nums]) ?_ ?_; (focus (simp (config := { maxSteps := 2000000 }) (implicitDefEqProofs := false) (disch := first | omega | assumption) only [go_sem, ↓reduceIte, DV.ren, DV.ren.go, List.idxOf_cons, List.getD_cons_succ, List.getD_cons_zero, Tx.d, frzI]; done)); (try simp (config := { maxSteps := 2000000 }) (implicitDefEqProofs := false) (disch := first | omega | assumption | (simp only []; done) | fail) only [go_sem, Nat.reduceLT, Nat.reduceBEq, Int.reduceLT, Int.reduceBEq, Tx.d]))
        | (refine vc_pure (hwA) rfl ?_; (try simp (config := { maxSteps := 2000000 }) (implicitDefEqProofs := false) (disch := first | omega | assumption | (simp only []; done) | fail) only [go_sem, Nat.reduceBEq, Int.reduceBEq]))
        )
      all_goals first | (rw [if_pos (hfq.1 (by omega))]; rfl) | (rw [if_neg (fun h => absurd (hfq.2 h) (by omega))]; rfl) | skip
  · rw [if_neg (by rintro (h | h); exact h rfl; omega), if_pos (by omega)]
    refine vcalls_drop (fn := Try.f15) Try.func15 rfl (by kernel_rfl) (by simp [Try.f15]) ?_
    simp (config := { maxSteps := 2000000 }) (implicitDefEqProofs := false) (disch := first | omega | assumption | (simp only []; done) | fail) only [go_sem, ↓reduceIte, Nat.reduceAdd, Nat.reduceBEq, Int.reduceAdd, Int.reduceBEq, Try.f15]
    skip
    repeat' (first
      | (refine vrunG_split (fun hZ => ?_) (fun hZ => ?_) <;> (try rw [hZ]) <;> (try simp only [decide_eq_true_eq, decide_eq_false_iff_not, Bool.or_eq_true, Bool.and_eq_true, Bool.or_eq_false_iff, Bool.and_eq_false_imp, Bool.not_eq_true', Bool.not_eq_false', beq_iff_eq, beq_eq_false_iff_ne, bne_iff_ne, bne_eq_false_iff_eq, ne_eq, Bool.not_eq_eq_eq_not, Bool.not_true, Bool.not_false] at hZ) <;> (try (first | rw [(hZ : _ = false)] | rw [(hZ : _ = true)])) <;> skip)
      | (refine vbr_split (fun hZ => ?_) (fun hZ => ?_) <;> (try rw [hZ]) <;> (try simp only [decide_eq_true_eq, decide_eq_false_iff_not, Bool.or_eq_true, Bool.and_eq_true, Bool.or_eq_false_iff, Bool.and_eq_false_imp, Bool.not_eq_true', Bool.not_eq_false', beq_iff_eq, beq_eq_false_iff_ne, bne_iff_ne, bne_eq_false_iff_eq, ne_eq, Bool.not_eq_eq_eq_not, Bool.not_true, Bool.not_false] at hZ) <;> (try (first | rw [(hZ : _ = false)] | rw [(hZ : _ = true)])) <;> skip)
      | (refine vdrG_split (fun hZ => ?_) (fun hZ => ?_) <;> (try rw [hZ]) <;> (try simp only [decide_eq_true_eq, decide_eq_false_iff_not, Bool.or_eq_true, Bool.and_eq_true, Bool.or_eq_false_iff, Bool.and_eq_false_imp, Bool.not_eq_true', Bool.not_eq_false', beq_iff_eq, beq_eq_false_iff_ne, bne_iff_ne, bne_eq_false_iff_eq, ne_eq, Bool.not_eq_eq_eq_not, Bool.not_true, Bool.not_false] at hZ) <;> (try (first | rw [(hZ : _ = false)] | rw [(hZ : _ = true)])) <;> skip)
      | (refine vc_pure (c1) rfl ?_; (try simp (config := { maxSteps := 2000000 }) (implicitDefEqProofs := false) (disch := first | omega | assumption | (simp only []; done) | fail) only [go_sem, ↓reduceIte, Nat.reduceAdd, Nat.reduceBEq, Int.reduceAdd, Int.reduceBEq]))
      | (refine vc_pure (c2) rfl ?_; (try simp (config := { maxSteps := 2000000 }) (implicitDefEqProofs := false) (disch := first | omega | assumption | (simp only []; done) | fail) only [go_sem, ↓reduceIte, reduceCtorEq, Nat.reduceBEq, Int.reduceBEq]))
      | (refine vc_pure (c3) rfl ?_; (try simp (config := { maxSteps := 2000000 }) (implicitDefEqProofs := false) (disch := first | omega | assumption | (simp only [List.length_cons, List.length_nil, Nat.zero_add, Nat.reduceAdd]; done) | fail) only [go_sem, V.splice, ↓reduceIte, reduceCtorEq, Nat.reduceAdd, Nat.reduceBEq, Int.reduceAdd, Int.reduceBEq, hg]))
      | (refine vc_pure (c4) rfl ?_; (try simp (config := { maxSteps := 2000000 }) (implicitDefEqProofs := false) (disch := first | omega | assumption | (simp only []; done) | fail) only [go_sem, Nat.reduceBEq, Int.reduceBEq]))
      )
    all_goals rfl
  · rw [if_neg (by rintro (h | h); exact h rfl; omega), if_neg (by omega)]
    have hwA := hw i hi (settleS (noteT ⟨id, st, ptx, b, q, s⟩ ⟨lsn, 4, tx, ptx, ppg, ref, c, blob⟩))
    have hse := rsettle_v (noteT ⟨id, st, ptx, b, q, s⟩ ⟨lsn, 4, tx, ptx, ppg, ref, c, blob⟩)
    have eN : noteT ⟨id, st, ptx, b, q, s⟩ ⟨lsn, 4, tx, ptx, ppg, ref, c, blob⟩ = ⟨id, 3, lsn, 0, q, []⟩ := rfl
    rw [eN] at hwA hse ⊢
    replace hse := hse ⟨by show q.length ≤ _; omega, by simp⟩
    have hse2 : VCalls Try.prog 46 [.agg [.int .i64 id, .int .i64 3, .int .i64 lsn, .int .i64 0, .pv (.sl (fz encI q)), .pv (.slc [])]] [] (Ret (.agg (settleS ⟨id, 3, lsn, 0, q, []⟩).d)) := VCalls.wkA hse
    generalize settleS ⟨id, 3, lsn, 0, q, []⟩ = u at *
    refine vcalls_drop (fn := Try.f15) Try.func15 rfl (by kernel_rfl) (by simp [Try.f15]) ?_
    simp (config := { maxSteps := 2000000 }) (implicitDefEqProofs := false) (disch := first | omega | assumption | (simp only []; done) | fail) only [go_sem, ↓reduceIte, Nat.reduceAdd, Nat.reduceBEq, Int.reduceAdd, Int.reduceBEq, Try.f15]
    skip
    repeat' (first
      | (refine vrunG_split (fun hZ => ?_) (fun hZ => ?_) <;> (try rw [hZ]) <;> (try simp only [decide_eq_true_eq, decide_eq_false_iff_not, Bool.or_eq_true, Bool.and_eq_true, Bool.or_eq_false_iff, Bool.and_eq_false_imp, Bool.not_eq_true', Bool.not_eq_false', beq_iff_eq, beq_eq_false_iff_ne, bne_iff_ne, bne_eq_false_iff_eq, ne_eq, Bool.not_eq_eq_eq_not, Bool.not_true, Bool.not_false] at hZ) <;> (try (first | rw [(hZ : _ = false)] | rw [(hZ : _ = true)])) <;> skip)
      | (refine vbr_split (fun hZ => ?_) (fun hZ => ?_) <;> (try rw [hZ]) <;> (try simp only [decide_eq_true_eq, decide_eq_false_iff_not, Bool.or_eq_true, Bool.and_eq_true, Bool.or_eq_false_iff, Bool.and_eq_false_imp, Bool.not_eq_true', Bool.not_eq_false', beq_iff_eq, beq_eq_false_iff_ne, bne_iff_ne, bne_eq_false_iff_eq, ne_eq, Bool.not_eq_eq_eq_not, Bool.not_true, Bool.not_false] at hZ) <;> (try (first | rw [(hZ : _ = false)] | rw [(hZ : _ = true)])) <;> skip)
      | (refine vdrG_split (fun hZ => ?_) (fun hZ => ?_) <;> (try rw [hZ]) <;> (try simp only [decide_eq_true_eq, decide_eq_false_iff_not, Bool.or_eq_true, Bool.and_eq_true, Bool.or_eq_false_iff, Bool.and_eq_false_imp, Bool.not_eq_true', Bool.not_eq_false', beq_iff_eq, beq_eq_false_iff_ne, bne_iff_ne, bne_eq_false_iff_eq, ne_eq, Bool.not_eq_eq_eq_not, Bool.not_true, Bool.not_false] at hZ) <;> (try (first | rw [(hZ : _ = false)] | rw [(hZ : _ = true)])) <;> skip)
      | (refine vc_pure (c1) rfl ?_; (try simp (config := { maxSteps := 2000000 }) (implicitDefEqProofs := false) (disch := first | omega | assumption | (simp only []; done) | fail) only [go_sem, ↓reduceIte, Nat.reduceAdd, Nat.reduceBEq, Int.reduceAdd, Int.reduceBEq]))
      | (refine vc_pure (c2) rfl ?_; (try simp (config := { maxSteps := 2000000 }) (implicitDefEqProofs := false) (disch := first | omega | assumption | (simp only []; done) | fail) only [go_sem, ↓reduceIte, reduceCtorEq, Nat.reduceBEq, Int.reduceBEq]))
      | (refine vc_pure (c3) rfl ?_; (try simp (config := { maxSteps := 2000000 }) (implicitDefEqProofs := false) (disch := first | omega | assumption | (simp only [List.length_cons, List.length_nil, Nat.zero_add, Nat.reduceAdd]; done) | fail) only [go_sem, V.splice, ↓reduceIte, reduceCtorEq, Nat.reduceAdd, Nat.reduceLT, Nat.reduceBEq, Int.reduceLT, Int.reduceAdd, Int.reduceBEq, hg]))
      | (refine vc_pure (hse2) rfl ?_; (try simp (config := { maxSteps := 2000000 }) (implicitDefEqProofs := false) (disch := first | omega | assumption | (simp only []; done) | fail) only [go_sem, Nat.reduceLT, Nat.reduceBEq, Int.reduceLT, Int.reduceBEq, Tx.d]))
      | (refine vc_pure (hwA) rfl ?_; (try simp (config := { maxSteps := 2000000 }) (implicitDefEqProofs := false) (disch := first | omega | assumption | (simp only []; done) | fail) only [go_sem, Nat.reduceBEq, Int.reduceBEq]))
      )
    all_goals rfl
  · rw [if_neg (by rintro (h | h); exact h rfl; omega), if_pos (by omega)]
    refine vcalls_drop (fn := Try.f15) Try.func15 rfl (by kernel_rfl) (by simp [Try.f15]) ?_
    simp (config := { maxSteps := 2000000 }) (implicitDefEqProofs := false) (disch := first | omega | assumption | (simp only []; done) | fail) only [go_sem, ↓reduceIte, Nat.reduceAdd, Nat.reduceBEq, Int.reduceAdd, Int.reduceBEq, Try.f15]
    skip
    repeat' (first
      | (refine vrunG_split (fun hZ => ?_) (fun hZ => ?_) <;> (try rw [hZ]) <;> (try simp only [decide_eq_true_eq, decide_eq_false_iff_not, Bool.or_eq_true, Bool.and_eq_true, Bool.or_eq_false_iff, Bool.and_eq_false_imp, Bool.not_eq_true', Bool.not_eq_false', beq_iff_eq, beq_eq_false_iff_ne, bne_iff_ne, bne_eq_false_iff_eq, ne_eq, Bool.not_eq_eq_eq_not, Bool.not_true, Bool.not_false] at hZ) <;> (try (first | rw [(hZ : _ = false)] | rw [(hZ : _ = true)])) <;> skip)
      | (refine vbr_split (fun hZ => ?_) (fun hZ => ?_) <;> (try rw [hZ]) <;> (try simp only [decide_eq_true_eq, decide_eq_false_iff_not, Bool.or_eq_true, Bool.and_eq_true, Bool.or_eq_false_iff, Bool.and_eq_false_imp, Bool.not_eq_true', Bool.not_eq_false', beq_iff_eq, beq_eq_false_iff_ne, bne_iff_ne, bne_eq_false_iff_eq, ne_eq, Bool.not_eq_eq_eq_not, Bool.not_true, Bool.not_false] at hZ) <;> (try (first | rw [(hZ : _ = false)] | rw [(hZ : _ = true)])) <;> skip)
      | (refine vdrG_split (fun hZ => ?_) (fun hZ => ?_) <;> (try rw [hZ]) <;> (try simp only [decide_eq_true_eq, decide_eq_false_iff_not, Bool.or_eq_true, Bool.and_eq_true, Bool.or_eq_false_iff, Bool.and_eq_false_imp, Bool.not_eq_true', Bool.not_eq_false', beq_iff_eq, beq_eq_false_iff_ne, bne_iff_ne, bne_eq_false_iff_eq, ne_eq, Bool.not_eq_eq_eq_not, Bool.not_true, Bool.not_false] at hZ) <;> (try (first | rw [(hZ : _ = false)] | rw [(hZ : _ = true)])) <;> skip)
      | (refine vc_pure (c1) rfl ?_; (try simp (config := { maxSteps := 2000000 }) (implicitDefEqProofs := false) (disch := first | omega | assumption | (simp only []; done) | fail) only [go_sem, ↓reduceIte, Nat.reduceAdd, Nat.reduceBEq, Int.reduceAdd, Int.reduceBEq]))
      | (refine vc_pure (c2) rfl ?_; (try simp (config := { maxSteps := 2000000 }) (implicitDefEqProofs := false) (disch := first | omega | assumption | (simp only []; done) | fail) only [go_sem, ↓reduceIte, reduceCtorEq, Nat.reduceBEq, Int.reduceBEq]))
      | (refine vc_pure (c3) rfl ?_; (try simp (config := { maxSteps := 2000000 }) (implicitDefEqProofs := false) (disch := first | omega | assumption | (simp only [List.length_cons, List.length_nil, Nat.zero_add, Nat.reduceAdd]; done) | fail) only [go_sem, V.splice, ↓reduceIte, reduceCtorEq, Nat.reduceAdd, Nat.reduceBEq, Int.reduceAdd, Int.reduceBEq, hg]))
      | (refine vc_pure (c4) rfl ?_; (try simp (config := { maxSteps := 2000000 }) (implicitDefEqProofs := false) (disch := first | omega | assumption | (simp only []; done) | fail) only [go_sem, Nat.reduceBEq, Int.reduceBEq]))
      )
    all_goals rfl
end Go.Proofs.Ytkbahhackcnnbaa

namespace Go.Proofs.Ytkbahhackcnnbaa
open Go.V Go
set_option maxRecDepth 100000
set_option linter.unusedSimpArgs false

def cb (c : C) : Blk := ⟨62, true, cc c⟩
/-- What a contract of a method of Codes says. -/
abbrev CX (R : DV → Prop) : DV → Heap → Prop := fun r h' => ∃ B', h' = [B'] ∧ B'.live = true ∧ DV.nums.go (fun _ => false) B'.cells = true ∧ r.nums (fun _ => false) = true ∧ (R r ∧ ∃ c', B' = cb c')

theorem vc_cx {g : FuncId} {args : List DV} {hp : Heap} {k : Nat} {c : C} {R : DV → Prop} {K : DV → Heap → Prop} (h : VCalls Try.prog g (args.map (DV.ren fun _ => 0)) [cb c] (CX R)) (hk : hp[k]? = some (cb c))
    (ha : DV.nums.go (fun i => i == k) args = true) (hK : ∀ r c', R r → K r (hp.set k (cb c'))) : VCalls Try.prog g args hp K :=
  (VCalls.ptr1 (R := fun r B' => R r ∧ ∃ c', B' = cb c') hk rfl (cc_nums c) h ha).mono fun r h' ⟨B', e1, _, _, e2, e3⟩ => by subst e1; obtain ⟨c', rfl⟩ := e3; exact hK r c' e2

/-- A choice below n. -/
abbrev Nx (n : Nat) : DV → Prop := fun r => ∃ x : Nat, r = .int .i64 x ∧ x < n

theorem next0_v (c : C) (n : Nat) (h1 : 1 ≤ n) (hn : n ≤ 256) : VCalls Try.prog 13 [.ptr 0 0, .int .i64 n] [cb c] (CX (Nx n)) := by
  refine vcalls_drop (fn := Try.f13) Try.func13 rfl (by kernel_rfl) (by simp [Try.f13]) ?_
  have ha := c.ha
  have hl := c.hl
  simp (config := { maxSteps := 2000000 }) (implicitDefEqProofs := false) (disch := first | omega | assumption | (simp only []; done) | fail) only [go_sem, Nat.reduceAdd, Int.reduceAdd, Try.f13, cb, cc]
  refine vdraw (by kernel_rfl) (by kernel_rfl) ?_
  by_cases a : c.at_ < c.l.length
  · simp (config := { maxSteps := 2000000 }) (implicitDefEqProofs := false) (disch := first | omega | assumption | (simp only []; done) | fail) only [go_sem, ↓reduceIte, reduceCtorEq, Nat.reduceAdd, Nat.reduceBEq, Int.reduceAdd, Int.reduceBEq]
    refine vdraw (by kernel_rfl) (by kernel_rfl) ?_
    have hg := fzU_get c.l c.at_ a
    have hh : (c.l.getD c.at_ 0).toNat < 256 := UInt8.toNat_lt _
    simp (config := { maxSteps := 2000000 }) (implicitDefEqProofs := false) (disch := first | omega | assumption | (simp only [List.length_cons, List.length_nil, Nat.zero_add]; done) | fail) only [go_sem, ↓reduceIte, reduceCtorEq, Nat.reduceAdd, Nat.reduceLT, Nat.reduceBEq, Int.reduceLT, Int.reduceAdd, Int.reduceBEq, hg]
    obtain ⟨y, hy, hlt⟩ := tmod_lt' (c.l.getD c.at_ 0).toNat n h1
    refine ⟨_, rfl, rfl, rfl, rfl, ⟨y, by rw [hy], hlt⟩, ⟨c.l, c.at_ + 1, a, hl⟩, rfl⟩
  · simp (config := { maxSteps := 2000000 }) (implicitDefEqProofs := false) (disch := first | omega | assumption | (simp only []; done) | fail) only [go_sem, ↓reduceIte, reduceCtorEq, Nat.reduceAdd, Nat.reduceBEq, Int.reduceAdd, Int.reduceBEq]
    exact ⟨_, rfl, rfl, rfl, rfl, ⟨0, rfl, h1⟩, c, rfl⟩

theorem next_v (c : C) (n : Nat) (h1 : 1 ≤ n) (hn : n ≤ 1000000000) : VCalls Try.prog 13 [.ptr 0 0, .int .i64 n] [cb c] (CX (Nx n)) := by
  by_cases hs : n ≤ 256
  · exact next0_v c n h1 hs
  refine vcalls_drop (fn := Try.f13) Try.func13 rfl (by kernel_rfl) (by simp [Try.f13]) ?_
  have ha := c.ha
  have hl := c.hl
  simp (config := { maxSteps := 2000000 }) (implicitDefEqProofs := false) (disch := first | omega | assumption | (simp only []; done) | fail) only [go_sem, Nat.reduceAdd, Int.reduceAdd, Try.f13, cb, cc]
  refine vdraw (by kernel_rfl) (by kernel_rfl) ?_
  by_cases a : c.at_ < c.l.length
  · simp (config := { maxSteps := 2000000 }) (implicitDefEqProofs := false) (disch := first | omega | assumption | (simp only []; done) | fail) only [go_sem, ↓reduceIte, reduceCtorEq, Nat.reduceAdd, Nat.reduceBEq, Int.reduceAdd, Int.reduceBEq]
    refine vdraw (by kernel_rfl) (by kernel_rfl) ?_
    have hg := fzU_get c.l c.at_ a
    have hh : (c.l.getD c.at_ 0).toNat < 256 := UInt8.toNat_lt _
    generalize hx : (c.l.getD c.at_ 0).toNat = x at hg hh
    simp (config := { maxSteps := 2000000 }) (implicitDefEqProofs := false) (disch := first | omega | assumption | (simp only [List.length_cons, List.length_nil, Nat.zero_add]; done) | fail) only [go_sem, ↓reduceIte, reduceCtorEq, Nat.reduceAdd, Nat.reduceLT, Nat.reduceBEq, Int.reduceLT, Int.reduceAdd, Int.reduceBEq, hg]
    refine vc_cx (k := 0) (c := ⟨c.l, c.at_ + 1, a, hl⟩) (next0_v _ 256 (by omega) (by omega)) rfl rfl ?_
    rintro r c' ⟨z, rfl, hz⟩
    simp (config := { maxSteps := 2000000 }) (implicitDefEqProofs := false) (disch := first | omega | assumption | (simp only []; done) | fail) only [go_sem, Nat.reduceBEq, Int.reduceBEq, cb, cc]
    obtain ⟨y, hy, hlt⟩ := tmod_lt' (256 * x + z) n h1
    have e : (256 * (x : Int) + (z : Int)) = ((256 * x + z : Nat) : Int) := by omega
    refine ⟨_, rfl, rfl, rfl, rfl, ⟨y, by rw [e, hy], hlt⟩, c', rfl⟩
  · simp (config := { maxSteps := 2000000 }) (implicitDefEqProofs := false) (disch := first | omega | assumption | (simp only []; done) | fail) only [go_sem, ↓reduceIte, reduceCtorEq, Nat.reduceAdd, Nat.reduceBEq, Int.reduceAdd, Int.reduceBEq]
    exact ⟨_, rfl, rfl, rfl, rfl, ⟨0, rfl, h1⟩, c, rfl⟩

theorem next_i (c : C) (m : Int) (h1 : 1 ≤ m) (hn : m ≤ 1000000000) : VCalls Try.prog 13 [.ptr 0 0, .int .i64 m] [cb c] (CX (Nx m.toNat)) := by
  have h := next_v c m.toNat (by omega) (by omega)
  rwa [show ((m.toNat : Nat) : Int) = m by omega] at h

theorem draw_v (l : List UInt8) (most : Nat) (hm : 1 ≤ most) (h : most ≤ 1000000) (hl : l.length ≤ 9223372036854775807) : VCalls Try.prog 7 [.pv (.sl (fz encU l)), .int .i64 most] [] fun r h' => ∃ B, h' = [B] ∧ r = .ptr 0 0 ∧ B.live = true ∧ DV.nums.go (fun _ => false) B.cells = true ∧ ∃ c, B = cb c := by
  refine vcalls_keep (fn := Try.f7) Try.func7 rfl (by kernel_rfl) (by simp [Try.f7]) ?_
  simp (config := { maxSteps := 2000000 }) (implicitDefEqProofs := false) (disch := first | omega | assumption | (simp only []; done) | fail) only [go_sem, Nat.reduceAdd, Nat.reduceBEq, Int.reduceAdd, Int.reduceBEq, Try.f7]
  refine vbr_split (fun hc => ?_) (fun hc => ?_) <;> simp only [decide_eq_true_eq, decide_eq_false_iff_not, Bool.or_eq_true, Bool.and_eq_true, Bool.or_eq_false_iff, Bool.and_eq_false_imp, Bool.not_eq_true', Bool.not_eq_false', beq_iff_eq, beq_eq_false_iff_ne, bne_iff_ne, bne_eq_false_iff_eq, ne_eq] at hc
  · have hx : (fz encU l)[0]?.map List.length = some 1 := fz_has encU l (by omega)
    have ht : (fz encU l).take most = fz encU (l.take most) := fz_take encU l most
    have hh : most ≤ (fz encU l).length := by rw [fz_len]; omega
    have h0 : (0 : Nat) ≤ most := by omega
    simp (config := { maxSteps := 2000000 }) (implicitDefEqProofs := false) (disch := first | omega | assumption | (simp only []; done) | fail) only [go_sem, V.splice, ↓reduceIte, Nat.reduceAdd, Nat.reduceLT, Nat.reduceLeDiff, Nat.reduceBEq, Int.reduceLT, Int.reduceAdd, Int.reduceBEq, ht]
    exact ⟨_, rfl, rfl, rfl, ⟨l.take most, 0, by omega, by rw [List.length_take]; omega⟩, rfl⟩
  · simp (config := { maxSteps := 2000000 }) (implicitDefEqProofs := false) (disch := first | omega | assumption | (simp only []; done) | fail) only [go_sem, V.splice, ↓reduceIte, Nat.reduceAdd, Nat.reduceLT, Nat.reduceLeDiff, Nat.reduceBEq, Int.reduceLT, Int.reduceAdd, Int.reduceBEq]
    exact ⟨_, rfl, rfl, rfl, ⟨l, 0, by omega, by omega⟩, rfl⟩

theorem vc_draw {l : List UInt8} {most : Nat} {hp : Heap} {K : DV → Heap → Prop} (hm : 1 ≤ most) (h : most ≤ 1000000) (hl : l.length ≤ 9223372036854775807) (hK : ∀ c, K (.ptr hp.length 0) (hp ++ [cb c])) : VCalls Try.prog 7 [.pv (.sl (fz encU l)), .int .i64 most] hp K :=
  (VCalls.new (draw_v l most hm h hl) rfl).mono fun r h' ⟨B, e1, e2, _, _, c, e3⟩ => by subst e1 e2 e3; exact hK c

theorem int_v (c : C) : VCalls Try.prog 33 [.ptr 0 0] [cb c] (CX fun r => ∃ n : Int, r = .int .i64 n ∧ -9223372036854775808 ≤ n ∧ n ≤ 9223372036854775807) := by
  refine vcalls_drop (fn := Try.f33) Try.func33 rfl (by kernel_rfl) (by simp [Try.f33]) ?_
  simp (config := { maxSteps := 2000000 }) (implicitDefEqProofs := false) (disch := first | omega | assumption | (simp only []; done) | fail) only [go_sem, Nat.reduceBEq, Int.reduceNeg, Int.reduceBEq, Try.f33]
  refine vc_cx (k := 0) (c := c) (next_v c 10 (by omega) (by omega)) rfl rfl ?_
  rintro _ c1 ⟨z, rfl, hz⟩
  (try simp (config := { maxSteps := 2000000 }) (implicitDefEqProofs := false) (disch := first | omega | assumption | (simp only []; done) | fail) only [go_sem, Int.reduceNeg])
  repeat' (first
    | (refine vrunG_split (fun hZ => ?_) (fun hZ => ?_) <;> (try rw [hZ]) <;> (try simp only [decide_eq_true_eq, decide_eq_false_iff_not, Bool.or_eq_true, Bool.and_eq_true, Bool.or_eq_false_iff, Bool.and_eq_false_imp, Bool.not_eq_true', Bool.not_eq_false', beq_iff_eq, beq_eq_false_iff_ne, bne_iff_ne, bne_eq_false_iff_eq, ne_eq, Bool.not_eq_eq_eq_not, Bool.not_true, Bool.not_false] at hZ) <;> (try (first | rw [(hZ : _ = false)] | rw [(hZ : _ = true)])) <;> skip)
    | (refine vbr_split (fun hZ => ?_) (fun hZ => ?_) <;> (try rw [hZ]) <;> (try simp only [decide_eq_true_eq, decide_eq_false_iff_not, Bool.or_eq_true, Bool.and_eq_true, Bool.or_eq_false_iff, Bool.and_eq_false_imp, Bool.not_eq_true', Bool.not_eq_false', beq_iff_eq, beq_eq_false_iff_ne, bne_iff_ne, bne_eq_false_iff_eq, ne_eq, Bool.not_eq_eq_eq_not, Bool.not_true, Bool.not_false] at hZ) <;> (try (first | rw [(hZ : _ = false)] | rw [(hZ : _ = true)])) <;> (try simp (config := { maxSteps := 2000000 }) (implicitDefEqProofs := false) (disch := first | omega | assumption | (simp only []; done) | fail) only [go_sem, V.splice, V.mk, ↓reduceIte, Nat.reduceAdd, Nat.reduceLT, Nat.reduceLeDiff, Nat.reduceBEq, Int.reduceLT, Int.reduceNeg, Int.reduceAdd, Int.reduceBEq]))
    | (refine vdrG_split (fun hZ => ?_) (fun hZ => ?_) <;> (try rw [hZ]) <;> (try simp only [decide_eq_true_eq, decide_eq_false_iff_not, Bool.or_eq_true, Bool.and_eq_true, Bool.or_eq_false_iff, Bool.and_eq_false_imp, Bool.not_eq_true', Bool.not_eq_false', beq_iff_eq, beq_eq_false_iff_ne, bne_iff_ne, bne_eq_false_iff_eq, ne_eq, Bool.not_eq_eq_eq_not, Bool.not_true, Bool.not_false] at hZ) <;> (try (first | rw [(hZ : _ = false)] | rw [(hZ : _ = true)])) <;> skip)
    )
  · refine vc_cx (k := 0) (c := c1) (next_v c1 3 (by omega) (by omega)) rfl rfl ?_
    rintro _ c2 ⟨y, rfl, hy⟩
    simp (config := { maxSteps := 2000000 }) (implicitDefEqProofs := false) (disch := first | omega | assumption | (simp only []; done) | fail) only [go_sem, Int.reduceNeg]
    exact ⟨_, rfl, rfl, cc_nums _, rfl, ⟨_, rfl, by omega, by omega⟩, c2, rfl⟩
  · refine vc_cx (k := 0) (c := c1) (next_v c1 16 (by omega) (by omega)) rfl rfl ?_
    rintro _ c2 ⟨y, rfl, hy⟩
    have h : y = 0 ∨ y = 1 ∨ y = 2 ∨ y = 3 ∨ y = 4 ∨ y = 5 ∨ y = 6 ∨ y = 7 ∨ y = 8 ∨ y = 9 ∨ y = 10 ∨ y = 11 ∨ y = 12 ∨ y = 13 ∨ y = 14 ∨ y = 15 := by omega
    rcases h with rfl | rfl | rfl | rfl | rfl | rfl | rfl | rfl | rfl | rfl | rfl | rfl | rfl | rfl | rfl | rfl <;> (simp (config := { maxSteps := 2000000 }) (implicitDefEqProofs := false) (disch := first | omega | assumption | (simp only []; done) | fail) only [go_sem, Nat.reduceBEq, Int.reduceNeg, Int.reduceBEq]; exact ⟨_, rfl, rfl, cc_nums _, rfl, ⟨_, rfl, by omega, by omega⟩, c2, rfl⟩)
  · refine vc_cx (k := 0) (c := c1) (next_v c1 20 (by omega) (by omega)) rfl rfl ?_
    rintro _ c2 ⟨y, rfl, hy⟩
    simp (config := { maxSteps := 2000000 }) (implicitDefEqProofs := false) (disch := first | omega | assumption | (simp only []; done) | fail) only [go_sem, Int.reduceNeg]
    exact ⟨_, rfl, rfl, cc_nums _, rfl, ⟨_, rfl, by omega, by omega⟩, c2, rfl⟩
theorem btsC : bts Try.prog 22 9 = true := by kernel_rfl
/-- A text spoilt: of about the same length. -/
abbrev Sx (n : Nat) : DV → Prop := fun r => ∃ t : List UInt8, r = .pv (.str t) ∧ t.length ≤ n + 1

set_option maxHeartbeats 1000000 in
theorem spoilt_v (c : C) (s : List UInt8) (hs : s.length ≤ 900000000) : VCalls Try.prog 28 [.ptr 0 0, .pv (.str s)] [cb c] (CX (Sx s.length)) := by
  refine vcalls_drop (fn := Try.f28) Try.func28 rfl (by kernel_rfl) (by simp [Try.f28]) ?_
  simp (config := { maxSteps := 2000000 }) (implicitDefEqProofs := false) (disch := first | omega | assumption | (simp only []; done) | fail) only [go_sem, Nat.reduceAdd, Nat.reduceBEq, Int.reduceAdd, Int.reduceBEq, Try.f28]
  refine vbr_split (fun h0 => ?_) (fun h0 => ?_) <;> simp only [decide_eq_true_eq, decide_eq_false_iff_not, Bool.or_eq_true, Bool.and_eq_true, Bool.or_eq_false_iff, Bool.and_eq_false_imp, Bool.not_eq_true', Bool.not_eq_false', beq_iff_eq, beq_eq_false_iff_ne, bne_iff_ne, bne_eq_false_iff_eq, ne_eq] at h0
  · simp (config := { maxSteps := 2000000 }) (implicitDefEqProofs := false) (disch := first | omega | assumption | (simp only []; done) | fail) only [go_sem, Nat.reduceBEq, Int.reduceBEq]
    refine vc_cx (k := 0) (c := c) (next_v c 256 (by omega) (by omega)) rfl rfl ?_
    rintro r c' ⟨z, rfl, hz⟩
    simp (config := { maxSteps := 2000000 }) (implicitDefEqProofs := false) (disch := first | omega | assumption | (simp only []; done) | fail) only [go_sem, V.splice, V.mk, ↓reduceIte, Nat.reduceLT, Nat.reduceLeDiff, Int.reduceLT, cb, conv_bts btsC, vcso_one]
    exact ⟨_, rfl, rfl, rfl, rfl, ⟨_, rfl, by simp⟩, c', rfl⟩
  · have hs1 : 1 ≤ s.length := by omega
    simp (config := { maxSteps := 2000000 }) (implicitDefEqProofs := false) (disch := first | omega | assumption | (simp only []; done) | fail) only [go_sem, Nat.reduceBEq, Int.reduceBEq]
    refine vc_cx (k := 0) (c := c) (next_v c s.length hs1 (by omega)) rfl rfl ?_
    rintro r c1 ⟨k, rfl, hk⟩
    simp (config := { maxSteps := 2000000 }) (implicitDefEqProofs := false) (disch := first | omega | assumption | (simp only []; done) | fail) only [go_sem, Nat.reduceBEq, Int.reduceBEq]
    refine vc_cx (k := 0) (c := c1) (next_v c1 4 (by omega) (by omega)) rfl rfl ?_
    rintro r c2 ⟨z, rfl, hz⟩
    simp (config := { maxSteps := 2000000 }) (implicitDefEqProofs := false) (disch := first | omega | assumption | (simp only []; done) | fail) only [go_sem]
    have hk1 : ((k : Int) + 1).toNat = k + 1 := by omega
    refine vbr_split (fun hz0 => ?_) (fun hz0 => ?_) <;> simp only [decide_eq_true_eq, decide_eq_false_iff_not, Bool.or_eq_true, Bool.and_eq_true, Bool.or_eq_false_iff, Bool.and_eq_false_imp, Bool.not_eq_true', Bool.not_eq_false', beq_iff_eq, beq_eq_false_iff_ne, bne_iff_ne, bne_eq_false_iff_eq, ne_eq] at hz0
    · simp (config := { maxSteps := 2000000 }) (implicitDefEqProofs := false) (disch := first | omega | assumption) only [go_sem]
      refine vdraw (by kernel_rfl) (by kernel_rfl) ?_
      have q1 : k ≤ s.length := by omega
      have q2 : k + 1 ≤ s.length := by omega
      have q3 : (0 : Int) ≤ (k : Int) + 1 := by omega
      simp (config := { maxSteps := 2000000 }) (implicitDefEqProofs := false) (disch := first | omega | assumption | (simp only []; done) | (simp only [List.length_take, List.length_drop] <;> omega) | fail) only [go_sem, Nat.reduceAdd, Nat.reduceBEq, Int.reduceAdd, Int.reduceBEq, hk1]
      refine ⟨_, rfl, rfl, rfl, rfl, ⟨_, rfl, ?_⟩, c2, rfl⟩
      rw [List.length_append, List.length_drop, List.length_take]
      simp
      omega
    · simp (config := { maxSteps := 2000000 }) (implicitDefEqProofs := false) (disch := first | omega | assumption | (simp only []; done) | fail) only [go_sem, Nat.reduceBEq, Int.reduceBEq]
      refine vbr_split (fun hz1 => ?_) (fun hz1 => ?_) <;> simp only [decide_eq_true_eq, decide_eq_false_iff_not, Bool.or_eq_true, Bool.and_eq_true, Bool.or_eq_false_iff, Bool.and_eq_false_imp, Bool.not_eq_true', Bool.not_eq_false', beq_iff_eq, beq_eq_false_iff_ne, bne_iff_ne, bne_eq_false_iff_eq, ne_eq] at hz1
      · simp (config := { maxSteps := 2000000 }) (implicitDefEqProofs := false) (disch := first | omega | assumption | (simp only []; done) | fail) only [go_sem, Nat.reduceBEq, Int.reduceBEq]
        refine vc_cx (k := 0) (c := c2) (next_v c2 256 (by omega) (by omega)) rfl rfl ?_
        rintro r c3 ⟨z, rfl, hz⟩
        simp (config := { maxSteps := 2000000 }) (implicitDefEqProofs := false) (disch := first | omega | assumption | (simp only []; done) | (simp only [List.length_cons, List.length_nil] <;> omega) | fail) only [go_sem, V.splice, V.mk, ↓reduceIte, Nat.reduceLT, Nat.reduceLeDiff, Nat.reduceBEq, Int.reduceLT, Int.reduceBEq, cb, conv_bts btsC, vcso_one]
        refine ⟨_, rfl, rfl, rfl, rfl, ⟨_, rfl, ?_⟩, c3, rfl⟩
        simp
      · simp (config := { maxSteps := 2000000 }) (implicitDefEqProofs := false) (disch := first | omega | assumption) only [go_sem]
        refine vspineT (id := 9) [[], [], [0, 1], [], [], [3, 4], [], [6], [6, 7], [6, 7, 8], [3, 4, 5, 6, 7, 8, 9], [3, 4, 5, 6, 7, 8, 9, 10], [3, 4, 5, 6, 7, 8, 9, 10, 11], [0, 1, 2, 3, 4, 5, 6, 7, 8, 9, 10, 11, 12], [], [], [15], [14, 15, 16], [0, 1, 2, 3, 4, 5, 6, 7, 8, 9, 10, 11, 12, 13, 14, 15, 16, 17], [0, 1, 2, 3, 4, 5, 6, 7, 8, 9, 10, 11, 12, 13, 14, 15, 16, 17, 18]] [0, 1, 2, 3, 4, 5, 6, 14, 15, 16, 17] [⟨[], [], 7, [0, 1, 2, 3, 4, 5, 14, 15, 16, 17], [8, 9, 10]⟩, ⟨[], [], 11, [0, 1, 2, 14, 15, 16, 17], [12, 13, 18]⟩, ⟨[], [], 19, [], []⟩] (by kernel_rfl) (by kernel_rfl) (by kernel_rfl) ?_
        have q1 : k ≤ s.length := by omega
        have q2 : k + 1 ≤ s.length := by omega
        have q3 : (0 : Int) ≤ (k : Int) + 1 := by omega
        have hg : s[k]? = some (s.getD k 0) := by rw [List.getD_eq_getElem?_getD, List.getElem?_eq_getElem hk]; rfl
        simp (config := { maxSteps := 2000000 }) (implicitDefEqProofs := false) (disch := first | omega | assumption | (simp only []; done) | fail) only [go_sem, Nat.reduceBEq, Int.reduceBEq, hg, hk1]
        refine vc_cx (k := 0) (c := c2) (next_v c2 255 (by omega) (by omega)) rfl rfl ?_
        rintro r c3 ⟨z, rfl, hz⟩
        simp (config := { maxSteps := 2000000 }) (implicitDefEqProofs := false) (disch := first | omega | assumption | (simp only []; done) | (simp only [List.length_append, List.length_cons, List.length_nil, List.length_take, List.length_drop] <;> omega) | fail) only [go_sem, V.splice, V.mk, ↓reduceIte, Nat.reduceLT, Nat.reduceLeDiff, Nat.reduceBEq, Int.reduceLT, Int.reduceBEq, cb, cc, conv_bts btsC, vcso_one]
        refine ⟨_, rfl, rfl, rfl, rfl, ⟨_, rfl, ?_⟩, c3, rfl⟩
        rw [List.length_append, List.length_append, List.length_drop, List.length_take, List.length_take]
        simp only [List.length_cons, List.length_nil]
        omega
end Go.Proofs.Ytkbahhackcnnbaa

namespace Go.Proofs.Ytkbahhackcnnbaa
open Go.V Go
set_option maxRecDepth 100000
set_option linter.unusedSimpArgs false

/-- Small: at most n, and each of a size that fits. -/
def Tx.ss (t : Tx) : Prop := t.l.length ≤ 100000 ∧ t.s.length ≤ 100000
theorem Tx.ss.sm {t : Tx} (h : t.ss) : t.sm := ⟨Nat.le_trans h.1 (by decide), Nat.le_trans h.2 (by decide)⟩
def smN (n : Nat) (l : List Tx) : Prop := l.length ≤ n ∧ ∀ t ∈ l, t.ss
theorem smN.smL {n : Nat} {l : List Tx} (h : smN n l) (hn : n ≤ 1000000) : smL l := ⟨Nat.le_trans h.1 hn, fun t ht => (h.2 t ht).sm⟩
theorem smN.mono {n m : Nat} {l : List Tx} (h : smN n l) (hn : n ≤ m) : smN m l := ⟨Nat.le_trans h.1 hn, h.2⟩
theorem smN_nil (n : Nat) : smN n [] := ⟨Nat.zero_le _, fun t h => by simp at h⟩
theorem tblB_smN {l : List Tx} (h : tblB l = true) : smN 64 l := ⟨tblB_len h, fun t ht => by
  obtain ⟨i, hi, rfl⟩ := List.getElem_of_mem ht
  have := okB_len (tblB_at h hi)
  exact ⟨by omega, by omega⟩⟩
theorem smN.set {n : Nat} {l : List Tx} (h : smN n l) (i : Nat) {t : Tx} (ht : t.ss) : smN n (l.set i t) :=
  ⟨by rw [List.length_set]; exact h.1, fun x hx => by
    rcases List.mem_or_eq_of_mem_set hx with hx | rfl
    · exact h.2 x hx
    · exact ht⟩
theorem smN.rem {n : Nat} {l : List Tx} (h : smN n l) (a : Int) : smN n (remS l a) :=
  ⟨Nat.le_trans (remS_le l a) h.1, fun x hx => h.2 x ((List.mem_filter.1 hx).1)⟩
theorem beginS_sm {l : List Tx} (a : Int) : smN 65 (beginS l a).1 := by
  unfold beginS
  split
  · exact smN_nil _
  · rename_i h1
    have hv : tblB l = true := by simpa using h1
    have hs := tblB_smN hv
    split
    · exact smN_nil _
    split
    · exact smN_nil _
    split
    · exact smN_nil _
    refine ⟨?_, fun x hx => ?_⟩
    · have := hs.1; unfold insT; simp only [List.length_append, List.length_take, List.length_cons, List.length_drop]; omega
    · unfold insT at hx
      rcases List.mem_append.1 hx with h | h
      · exact hs.2 x (List.mem_of_mem_take h)
      rcases List.mem_cons.1 h with rfl | h
      · exact ⟨Nat.zero_le _, Nat.zero_le _⟩
      · exact hs.2 x (List.mem_of_mem_drop h)
theorem actS_sm {l : List Tx} {a : Int} (h : (activeS l a).2 = 0) : smN 64 l ∧ (activeS l a).1.l.length ≤ 4096 ∧ (activeS l a).1.s.length ≤ 8 := by
  obtain ⟨hv, i, hi, _, _, h3⟩ := activeS_ok h
  rw [h3]
  exact ⟨tblB_smN hv, okB_len (tblB_at hv hi)⟩
theorem saveS_sm {l : List Tx} (a : Int) : smN 65 (saveS l a).1 := by
  unfold saveS
  split
  · exact smN_nil _
  rename_i h
  obtain ⟨h1, h2, h3⟩ := actS_sm (l := l) (a := a) (by simpa using h)
  split
  · exact smN_nil _
  · exact (h1.set _ ⟨by dsimp only; omega, by dsimp only; simp; omega⟩).mono (by omega)
theorem backS_sm {l : List Tx} (a sv : Int) : smN 65 (backS l a sv).1 := by
  unfold backS
  split
  · exact smN_nil _
  rename_i h
  obtain ⟨h1, h2, h3⟩ := actS_sm (l := l) (a := a) (by simpa using h)
  have h4 : ∀ k, ((activeS l a).1.s.take k).length ≤ 100000 := fun k => by rw [List.length_take]; omega
  split
  · exact smN_nil _
  split
  · exact (h1.set _ ⟨by dsimp only; omega, h4 _⟩).mono (by omega)
  · exact (h1.set _ ⟨by dsimp only; omega, h4 _⟩).mono (by omega)
theorem settleS_sm {t : Tx} (h : t.ss) : (settleS t).ss := by unfold settleS; split <;> exact h
theorem noteS_sm {l : List Tx} (e : E) : smN 65 (noteS l e).1 := by
  unfold noteS
  split
  · exact smN_nil _
  rename_i h1
  have hv : tblB l = true := by simpa using h1
  have hs := tblB_smN hv
  split
  · exact smN_nil _
  split
  · exact hs.mono (by omega)
  split
  · exact smN_nil _
  rename_i h4
  rcases idT_cases l e.tx with h | ⟨i, hi, h, hid⟩
  · omega
  rw [h, Int.toNat_natCast, getD_eq l i hi]
  have hlen := okB_len (tblB_at hv hi)
  unfold noteA
  split
  · exact smN_nil _
  split
  · exact (hs.rem _).mono (by omega)
  · refine (hs.set _ (settleS_sm ?_)).mono (by omega)
    unfold noteT
    have hfl : (l[i].l.filter fun x => decide (x ≠ e.ref)).length ≤ l[i].l.length := List.length_filter_le _ _
    split
    · exact ⟨by dsimp only; simp; omega, by dsimp only; omega⟩
    split
    · exact ⟨by dsimp only; omega, by dsimp only; omega⟩
    · exact ⟨by dsimp only; omega, by simp⟩
end Go.Proofs.Ytkbahhackcnnbaa

namespace Go.Proofs.Ytkbahhackcnnbaa
open Go.V Go
set_option maxRecDepth 100000
set_option linter.unusedSimpArgs false

theorem pend_at (q : List Int) (z : Nat) (h : 0 < q.length) : ∃ (y : Nat) (x : Int), (z : Int).tmod (q.length : Int) = y ∧ y < q.length ∧ (fz encI q)[((q.length : Int) - 1 - (y : Int)).toNat]? = some [.lit (.int .i64 x)] := by
  have e : (z : Int).tmod (q.length : Int) = ((z % q.length : Nat) : Int) := by rw [Int.tmod_eq_emod_of_nonneg (by omega)]; rfl
  have hlt := Nat.mod_lt z h
  refine ⟨z % q.length, q.getD (q.length - 1 - z % q.length) 0, e, hlt, ?_⟩
  rw [show ((q.length : Int) - 1 - ((z % q.length : Nat) : Int)).toNat = q.length - 1 - z % q.length by omega]
  exact fzI_get q _ (by omega)
set_option maxHeartbeats 4000000 in
theorem next12_v (c : C) (l : List Tx) (hs : smN 65 l) (a lsn : Int) (h1 : 1 ≤ lsn) (h2 : lsn ≤ 1000) : VCalls Try.prog 12 [.ptr 0 0, .pv (.sl (fz encT l)), .int .i64 a, .int .i64 lsn] [cb c] (CX fun r => ∃ e : E, r = .agg e.d ∧ True) := by
  refine vcalls_drop (fn := Try.f12) Try.func12 rfl (by kernel_rfl) (by simp [Try.f12]) ?_
  have hl := hs.1
  have hm := hs.2
  have c2 := rfind_v l (by omega) a
  simp (config := { maxSteps := 2000000 }) (implicitDefEqProofs := false) (disch := first | omega | assumption | (simp only []; done) | fail) only [go_sem, V.splice, V.mk, ↓reduceIte, Nat.reduceAdd, Nat.reduceLT, Nat.reduceLeDiff, Nat.reduceBEq, Int.reduceLT, Int.reduceAdd, Int.reduceBEq, Try.f12]
  (try simp (config := { maxSteps := 2000000 }) (implicitDefEqProofs := false) (disch := first | omega | assumption) only [go_sem, cb, cc])
  repeat' (first
    | (refine vrunG_split (fun hZ => ?_) (fun hZ => ?_) <;> (try rw [hZ]) <;> (try simp only [decide_eq_true_eq, decide_eq_false_iff_not, Bool.or_eq_true, Bool.and_eq_true, Bool.or_eq_false_iff, Bool.and_eq_false_imp, Bool.not_eq_true', Bool.not_eq_false', beq_iff_eq, beq_eq_false_iff_ne, bne_iff_ne, bne_eq_false_iff_eq, ne_eq, Bool.not_eq_eq_eq_not, Bool.not_true, Bool.not_false] at hZ) <;> (try (first | rw [(hZ : _ = false)] | rw [(hZ : _ = true)])) <;> skip)
    | (refine vbr_split (fun hZ => ?_) (fun hZ => ?_) <;> (try rw [hZ]) <;> (try simp only [decide_eq_true_eq, decide_eq_false_iff_not, Bool.or_eq_true, Bool.and_eq_true, Bool.or_eq_false_iff, Bool.and_eq_false_imp, Bool.not_eq_true', Bool.not_eq_false', beq_iff_eq, beq_eq_false_iff_ne, bne_iff_ne, bne_eq_false_iff_eq, ne_eq, Bool.not_eq_eq_eq_not, Bool.not_true, Bool.not_false] at hZ) <;> (try (first | rw [(hZ : _ = false)] | rw [(hZ : _ = true)])) <;> skip)
    | (refine vdrG_split (fun hZ => ?_) (fun hZ => ?_) <;> (try rw [hZ]) <;> (try simp only [decide_eq_true_eq, decide_eq_false_iff_not, Bool.or_eq_true, Bool.and_eq_true, Bool.or_eq_false_iff, Bool.and_eq_false_imp, Bool.not_eq_true', Bool.not_eq_false', beq_iff_eq, beq_eq_false_iff_ne, bne_iff_ne, bne_eq_false_iff_eq, ne_eq, Bool.not_eq_eq_eq_not, Bool.not_true, Bool.not_false] at hZ) <;> (try (first | rw [(hZ : _ = false)] | rw [(hZ : _ = true)])) <;> skip)
    | (refine vc_cx (k := 0) (next_v _ 9 (by omega) (by omega)) rfl rfl ?_; rintro _ _ ⟨_, rfl, _⟩; (try simp (config := { maxSteps := 2000000 }) (implicitDefEqProofs := false) (disch := first | omega | assumption | (simp only []; done) | fail) only [go_sem, Nat.reduceBEq, Int.reduceBEq, cb, cc]))
    )
  rename_i c0 z0 hz0
  obtain ⟨kk, hkk⟩ : ∃ kk : Int, ([.pv (.lit (.int .i64 1)), .pv (.lit (.int .i64 1)), .pv (.lit (.int .i64 1)), .pv (.lit (.int .i64 2)), .pv (.lit (.int .i64 2)), .pv (.lit (.int .i64 4)), .pv (.lit (.int .i64 3)), .pv (.lit (.int .i64 5)), .pv (.lit (.int .i64 7))] : List DV)[z0]? = some (.pv (.lit (.int .i64 kk))) := by
    have hk : z0 = 0 ∨ z0 = 1 ∨ z0 = 2 ∨ z0 = 3 ∨ z0 = 4 ∨ z0 = 5 ∨ z0 = 6 ∨ z0 = 7 ∨ z0 = 8 := by omega
    rcases hk with rfl | rfl | rfl | rfl | rfl | rfl | rfl | rfl | rfl <;> exact ⟨_, rfl⟩
  rcases idT_cases l a with h | ⟨i, hi, h, hid⟩
  · rw [h] at c2
    (try simp (config := { maxSteps := 2000000 }) (implicitDefEqProofs := false) (disch := first | omega | assumption | (simp only []; done) | fail) only [go_sem, V.splice, ↓reduceIte, Nat.reduceAdd, Nat.reduceLeDiff, Nat.reduceBEq, Int.reduceAdd, Int.reduceBEq, hkk])
    repeat' (first
      | (refine vrunG_split (fun hZ => ?_) (fun hZ => ?_) <;> (try rw [hZ]) <;> (try simp only [decide_eq_true_eq, decide_eq_false_iff_not, Bool.or_eq_true, Bool.and_eq_true, Bool.or_eq_false_iff, Bool.and_eq_false_imp, Bool.not_eq_true', Bool.not_eq_false', beq_iff_eq, beq_eq_false_iff_ne, bne_iff_ne, bne_eq_false_iff_eq, ne_eq, Bool.not_eq_eq_eq_not, Bool.not_true, Bool.not_false] at hZ) <;> (try (first | rw [(hZ : _ = false)] | rw [(hZ : _ = true)])) <;> (try simp (config := { maxSteps := 2000000 }) (implicitDefEqProofs := false) (disch := first | omega | assumption | (simp only []; done) | fail) only [go_sem, ↓reduceIte, reduceCtorEq, Nat.reduceBEq, Int.reduceLE, Int.reduceNeg, Int.reduceBEq]))
      | (refine vbr_split (fun hZ => ?_) (fun hZ => ?_) <;> (try rw [hZ]) <;> (try simp only [decide_eq_true_eq, decide_eq_false_iff_not, Bool.or_eq_true, Bool.and_eq_true, Bool.or_eq_false_iff, Bool.and_eq_false_imp, Bool.not_eq_true', Bool.not_eq_false', beq_iff_eq, beq_eq_false_iff_ne, bne_iff_ne, bne_eq_false_iff_eq, ne_eq, Bool.not_eq_eq_eq_not, Bool.not_true, Bool.not_false] at hZ) <;> (try (first | rw [(hZ : _ = false)] | rw [(hZ : _ = true)])) <;> (try simp (config := { maxSteps := 2000000 }) (implicitDefEqProofs := false) (disch := first | omega | assumption | (simp only []; done) | fail) only [go_sem, V.splice, ↓reduceIte, reduceCtorEq, Nat.reduceAdd, Nat.reduceLT, Nat.reduceBEq, Int.reduceLT, Int.reduceNeg, Int.reduceAdd, Int.reduceBEq]))
      | (refine vdrG_split (fun hZ => ?_) (fun hZ => ?_) <;> (try rw [hZ]) <;> (try simp only [decide_eq_true_eq, decide_eq_false_iff_not, Bool.or_eq_true, Bool.and_eq_true, Bool.or_eq_false_iff, Bool.and_eq_false_imp, Bool.not_eq_true', Bool.not_eq_false', beq_iff_eq, beq_eq_false_iff_ne, bne_iff_ne, bne_eq_false_iff_eq, ne_eq, Bool.not_eq_eq_eq_not, Bool.not_true, Bool.not_false] at hZ) <;> (try (first | rw [(hZ : _ = false)] | rw [(hZ : _ = true)])) <;> skip)
      | (refine vc_cx (k := 0) (next_v _ 12 (by omega) (by omega)) rfl rfl ?_; rintro _ _ ⟨_, rfl, _⟩; (try simp (config := { maxSteps := 2000000 }) (implicitDefEqProofs := false) (disch := first | omega | assumption | (simp only []; done) | fail) only [go_sem, Int.reduceNeg, cb, cc]))
      | (refine vc_cx (k := 0) (next_i _ lsn h1 (by omega)) rfl rfl ?_; rintro _ _ ⟨_, rfl, _⟩; (try simp (config := { maxSteps := 2000000 }) (implicitDefEqProofs := false) (disch := first | omega | assumption | (simp only []; done) | fail) only [go_sem, V.splice, ↓reduceIte, reduceCtorEq, Nat.reduceAdd, Nat.reduceLT, Nat.reduceBEq, Int.reduceLT, Int.reduceNeg, Int.reduceAdd, Int.reduceBEq, cb, cc]))
      | (refine vc_pure (c2) rfl ?_; (try simp (config := { maxSteps := 2000000 }) (implicitDefEqProofs := false) (disch := first | omega | assumption | (simp only []; done) | fail) only [go_sem, ↓reduceIte, reduceCtorEq, Nat.reduceBEq, Int.reduceLE, Int.reduceNeg, Int.reduceBEq]))
      )
    all_goals exact ⟨_, rfl, rfl, cc_nums _, rfl, ⟨⟨_, _, _, _, _, _, Ch0, []⟩, rfl⟩, _, rfl⟩
  · rw [h] at c2
    have hg := fzT_at l i hi
    have hsm := (hm _ (List.getElem_mem hi)).sm
    generalize l[i] = t at *
    obtain ⟨id, st, n, b, q, s⟩ := t
    dsimp only at hg
    have hp := fun z => pend_at q z
    obtain ⟨hs1, _⟩ := hsm
    dsimp only at hs1
    (try simp (config := { maxSteps := 2000000 }) (implicitDefEqProofs := false) (disch := first | omega | assumption | (simp only []; done) | fail) only [go_sem, V.splice, ↓reduceIte, Nat.reduceAdd, Nat.reduceLeDiff, Nat.reduceBEq, Int.reduceAdd, Int.reduceBEq, hkk])
    repeat' (first
      | (refine vrunG_split (fun hZ => ?_) (fun hZ => ?_) <;> (try rw [hZ]) <;> (try simp only [decide_eq_true_eq, decide_eq_false_iff_not, Bool.or_eq_true, Bool.and_eq_true, Bool.or_eq_false_iff, Bool.and_eq_false_imp, Bool.not_eq_true', Bool.not_eq_false', beq_iff_eq, beq_eq_false_iff_ne, bne_iff_ne, bne_eq_false_iff_eq, ne_eq, Bool.not_eq_eq_eq_not, Bool.not_true, Bool.not_false] at hZ) <;> (try (first | rw [(hZ : _ = false)] | rw [(hZ : _ = true)])) <;> (try simp (config := { maxSteps := 2000000 }) (implicitDefEqProofs := false) (disch := first | omega | assumption | (simp only [List.length_cons, List.length_nil, Nat.zero_add, Nat.reduceAdd]; done) | fail) only [go_sem, ↓reduceIte, reduceCtorEq, Nat.reduceBEq, Int.reduceBEq, hg]))
      | (refine vbr_split (fun hZ => ?_) (fun hZ => ?_) <;> (try rw [hZ]) <;> (try simp only [decide_eq_true_eq, decide_eq_false_iff_not, Bool.or_eq_true, Bool.and_eq_true, Bool.or_eq_false_iff, Bool.and_eq_false_imp, Bool.not_eq_true', Bool.not_eq_false', beq_iff_eq, beq_eq_false_iff_ne, bne_iff_ne, bne_eq_false_iff_eq, ne_eq, Bool.not_eq_eq_eq_not, Bool.not_true, Bool.not_false] at hZ) <;> (try (first | rw [(hZ : _ = false)] | rw [(hZ : _ = true)])) <;> (try simp (config := { maxSteps := 2000000 }) (implicitDefEqProofs := false) (disch := first | omega | assumption | (simp only []; done) | fail) only [go_sem, V.splice, ↓reduceIte, reduceCtorEq, Nat.reduceAdd, Nat.reduceLT, Nat.reduceBEq, Int.reduceLT, Int.reduceAdd, Int.reduceBEq]))
      | (refine vdrG_split (fun hZ => ?_) (fun hZ => ?_) <;> (try rw [hZ]) <;> (try simp only [decide_eq_true_eq, decide_eq_false_iff_not, Bool.or_eq_true, Bool.and_eq_true, Bool.or_eq_false_iff, Bool.and_eq_false_imp, Bool.not_eq_true', Bool.not_eq_false', beq_iff_eq, beq_eq_false_iff_ne, bne_iff_ne, bne_eq_false_iff_eq, ne_eq, Bool.not_eq_eq_eq_not, Bool.not_true, Bool.not_false] at hZ) <;> (try (first | rw [(hZ : _ = false)] | rw [(hZ : _ = true)])) <;> skip)
      | (refine vc_cx (k := 0) (next_v _ 12 (by omega) (by omega)) rfl rfl ?_; rintro _ _ ⟨_, rfl, _⟩; (try simp (config := { maxSteps := 2000000 }) (implicitDefEqProofs := false) (disch := first | omega | assumption | (simp only []; done) | fail) only [go_sem, cb, cc]))
      | (refine vc_cx (k := 0) (next_i _ lsn h1 (by omega)) rfl rfl ?_; rintro _ _ ⟨_, rfl, _⟩; (try simp (config := { maxSteps := 2000000 }) (implicitDefEqProofs := false) (disch := first | omega | assumption | (simp only []; done) | fail) only [go_sem, V.splice, ↓reduceIte, reduceCtorEq, Nat.reduceAdd, Nat.reduceLT, Nat.reduceBEq, Int.reduceLT, Int.reduceAdd, Int.reduceBEq, cb, cc]))
      | (refine vc_pure (c2) rfl ?_; (try simp (config := { maxSteps := 2000000 }) (implicitDefEqProofs := false) (disch := first | omega | assumption | (simp only [List.length_cons, List.length_nil, Nat.zero_add, Nat.reduceAdd]; done) | fail) only [go_sem, ↓reduceIte, reduceCtorEq, Nat.reduceAdd, Nat.reduceBEq, Int.reduceAdd, Int.reduceBEq, hg]))
      | (refine vspine (id := 6) [0, 1, 2, 3, 4, 5, 6, 7, 8, 9, 10, 11, 12, 14, 15, 16, 17, 18, 19] [⟨[], [], 13, [0, 1, 2, 3, 4, 5, 6, 7, 8, 9, 10, 11, 14, 15, 16, 17, 18, 19], [20, 21, 22, 23, 24]⟩, ⟨[], [], 25, [], []⟩] (by kernel_rfl) (by kernel_rfl) ?_; (try simp (config := { maxSteps := 2000000 }) (implicitDefEqProofs := false) (disch := first | omega | assumption | (simp only [List.length_cons, List.length_nil, Nat.zero_add, Nat.reduceAdd]; done) | fail) only [go_sem, ↓reduceIte, reduceCtorEq, Nat.reduceBEq, Int.reduceBEq, hg]))
      )
    · refine vc_cx (k := 0) (next_v _ 2 (by omega) (by omega)) rfl rfl ?_
      rintro _ c2 ⟨z, rfl, hz⟩
      obtain ⟨y, x, hy, hyl, hx⟩ := hp z (by omega)
      (try simp (config := { maxSteps := 2000000 }) (implicitDefEqProofs := false) (disch := first | omega | assumption | (simp only [List.length_cons, List.length_nil, Nat.zero_add]; done) | fail) only [go_sem, ↓reduceIte, reduceCtorEq, Nat.reduceAdd, Nat.reduceBEq, Int.reduceAdd, Int.reduceBEq, cb, cc, hy, hx])
      repeat' (first
        | (refine vrunG_split (fun hZ => ?_) (fun hZ => ?_) <;> (try rw [hZ]) <;> (try simp only [decide_eq_true_eq, decide_eq_false_iff_not, Bool.or_eq_true, Bool.and_eq_true, Bool.or_eq_false_iff, Bool.and_eq_false_imp, Bool.not_eq_true', Bool.not_eq_false', beq_iff_eq, beq_eq_false_iff_ne, bne_iff_ne, bne_eq_false_iff_eq, ne_eq, Bool.not_eq_eq_eq_not, Bool.not_true, Bool.not_false] at hZ) <;> (try (first | rw [(hZ : _ = false)] | rw [(hZ : _ = true)])) <;> skip)
        | (refine vbr_split (fun hZ => ?_) (fun hZ => ?_) <;> (try rw [hZ]) <;> (try simp only [decide_eq_true_eq, decide_eq_false_iff_not, Bool.or_eq_true, Bool.and_eq_true, Bool.or_eq_false_iff, Bool.and_eq_false_imp, Bool.not_eq_true', Bool.not_eq_false', beq_iff_eq, beq_eq_false_iff_ne, bne_iff_ne, bne_eq_false_iff_eq, ne_eq, Bool.not_eq_eq_eq_not, Bool.not_true, Bool.not_false] at hZ) <;> (try (first | rw [(hZ : _ = false)] | rw [(hZ : _ = true)])) <;> (try simp (config := { maxSteps := 2000000 }) (implicitDefEqProofs := false) (disch := first | omega | assumption | (simp only []; done) | fail) only [go_sem, V.splice, ↓reduceIte, Nat.reduceAdd, Nat.reduceLT, Nat.reduceBEq, Int.reduceLT, Int.reduceAdd, Int.reduceBEq]))
        | (refine vdrG_split (fun hZ => ?_) (fun hZ => ?_) <;> (try rw [hZ]) <;> (try simp only [decide_eq_true_eq, decide_eq_false_iff_not, Bool.or_eq_true, Bool.and_eq_true, Bool.or_eq_false_iff, Bool.and_eq_false_imp, Bool.not_eq_true', Bool.not_eq_false', beq_iff_eq, beq_eq_false_iff_ne, bne_iff_ne, bne_eq_false_iff_eq, ne_eq, Bool.not_eq_eq_eq_not, Bool.not_true, Bool.not_false] at hZ) <;> (try (first | rw [(hZ : _ = false)] | rw [(hZ : _ = true)])) <;> skip)
        | (refine vc_cx (k := 0) (next_v _ 12 (by omega) (by omega)) rfl rfl ?_; rintro _ _ ⟨_, rfl, _⟩; (try simp (config := { maxSteps := 2000000 }) (implicitDefEqProofs := false) (disch := first | omega | assumption | (simp only []; done) | fail) only [go_sem, cb, cc]))
        | (refine vc_cx (k := 0) (next_i _ lsn h1 (by omega)) rfl rfl ?_; rintro _ _ ⟨_, rfl, _⟩; (try simp (config := { maxSteps := 2000000 }) (implicitDefEqProofs := false) (disch := first | omega | assumption | (simp only []; done) | fail) only [go_sem, V.splice, ↓reduceIte, reduceCtorEq, Nat.reduceAdd, Nat.reduceLT, Nat.reduceBEq, Int.reduceLT, Int.reduceAdd, Int.reduceBEq, cb, cc]))
        )
      all_goals exact ⟨_, rfl, rfl, cc_nums _, rfl, ⟨⟨_, _, _, _, _, _, Ch0, []⟩, rfl⟩, _, rfl⟩
    all_goals exact ⟨_, rfl, rfl, cc_nums _, rfl, ⟨⟨_, _, _, _, _, _, Ch0, []⟩, rfl⟩, _, rfl⟩
/-- How far a table has been drawn. -/
structure TD where
  k : Nat
  c : C
  l : List Tx
  hs : smN 65 l
  n : Nat
  hn : n + k ≤ 20
def TD.st (s : TD) : St := ⟨80, 1, [(6, .int .i64 s.k), (5, .int .i64 s.n), (4, .pv (.sl (fz encT s.l))), (0, .ptr 0 0)], [cb s.c]⟩
def TD.next (s : TD) (c : C) (l : List Tx) (hs : smN 65 l) (h : 0 < s.k) : TD := ⟨s.k - 1, c, l, hs, s.n, by have := s.hn; omega⟩
def TD.nextN (s : TD) (c : C) (l : List Tx) (hs : smN 65 l) (h : 0 < s.k) : TD := ⟨s.k - 1, c, l, hs, s.n + 1, by have := s.hn; omega⟩
theorem TD.go (s : TD) (c' : C) (l' : List Tx) (hl : smN 65 l') (hk : 0 < s.k) {S' : St} (h : Weak S' ⟨80, 1, [(6, .int .i64 ((s.k : Int) - 1)), (5, .int .i64 s.n), (4, .pv (.sl (fz encT l'))), (0, .ptr 0 0)], [cb c']⟩) : ∃ j : TD, j.k < s.k ∧ Weak S' j.st :=
  ⟨s.next c' l' hl hk, by show s.k - 1 < s.k; omega, by
    have e : ((s.k - 1 : Nat) : Int) = (s.k : Int) - 1 := by omega
    show Weak S' ⟨80, 1, [(6, .int .i64 ((s.k - 1 : Nat) : Int)), (5, .int .i64 s.n), (4, .pv (.sl (fz encT l'))), (0, .ptr 0 0)], [cb c']⟩
    rw [e]; exact h⟩
theorem TD.goN (s : TD) (c' : C) (l' : List Tx) (hl : smN 65 l') (hk : 0 < s.k) {S' : St} (h : Weak S' ⟨80, 1, [(6, .int .i64 ((s.k : Int) - 1)), (5, .int .i64 ((s.n : Int) + 1)), (4, .pv (.sl (fz encT l'))), (0, .ptr 0 0)], [cb c']⟩) : ∃ j : TD, j.k < s.k ∧ Weak S' j.st :=
  ⟨s.nextN c' l' hl hk, by show s.k - 1 < s.k; omega, by
    have e : ((s.k - 1 : Nat) : Int) = (s.k : Int) - 1 := by omega
    show Weak S' ⟨80, 1, [(6, .int .i64 ((s.k - 1 : Nat) : Int)), (5, .int .i64 ((s.n + 1 : Nat) : Int)), (4, .pv (.sl (fz encT l'))), (0, .ptr 0 0)], [cb c']⟩
    rw [e]; exact h⟩
set_option maxHeartbeats 4000000 in
theorem table12_v (c : C) : VCalls Try.prog 8 [.ptr 0 0] [cb c] (CX fun r => ∃ (l : List Tx) (n : Nat), r = .tup [.pv (.sl (fz encT l)), .int .i64 n] ∧ smN 65 l ∧ n ≤ 20) := by
  refine vcalls_drop (fn := Try.f8) Try.func8 rfl (by kernel_rfl) (by simp [Try.f8]) ?_
  simp (config := { maxSteps := 2000000 }) (implicitDefEqProofs := false) (disch := first | omega | assumption | (simp only []; done) | fail) only [go_sem, Nat.reduceBEq, Int.reduceBEq, Try.f8]
  (try simp (config := { maxSteps := 2000000 }) (implicitDefEqProofs := false) (disch := first | omega | assumption) only [go_sem, cb, cc])
  repeat' (first
    | (refine vrunG_split (fun hZ => ?_) (fun hZ => ?_) <;> (try rw [hZ]) <;> (try simp only [decide_eq_true_eq, decide_eq_false_iff_not, Bool.or_eq_true, Bool.and_eq_true, Bool.or_eq_false_iff, Bool.and_eq_false_imp, Bool.not_eq_true', Bool.not_eq_false', beq_iff_eq, beq_eq_false_iff_ne, bne_iff_ne, bne_eq_false_iff_eq, ne_eq, Bool.not_eq_eq_eq_not, Bool.not_true, Bool.not_false] at hZ) <;> (try (first | rw [(hZ : _ = false)] | rw [(hZ : _ = true)])) <;> skip)
    | (refine vbr_split (fun hZ => ?_) (fun hZ => ?_) <;> (try rw [hZ]) <;> (try simp only [decide_eq_true_eq, decide_eq_false_iff_not, Bool.or_eq_true, Bool.and_eq_true, Bool.or_eq_false_iff, Bool.and_eq_false_imp, Bool.not_eq_true', Bool.not_eq_false', beq_iff_eq, beq_eq_false_iff_ne, bne_iff_ne, bne_eq_false_iff_eq, ne_eq, Bool.not_eq_eq_eq_not, Bool.not_true, Bool.not_false] at hZ) <;> (try (first | rw [(hZ : _ = false)] | rw [(hZ : _ = true)])) <;> skip)
    | (refine vdrG_split (fun hZ => ?_) (fun hZ => ?_) <;> (try rw [hZ]) <;> (try simp only [decide_eq_true_eq, decide_eq_false_iff_not, Bool.or_eq_true, Bool.and_eq_true, Bool.or_eq_false_iff, Bool.and_eq_false_imp, Bool.not_eq_true', Bool.not_eq_false', beq_iff_eq, beq_eq_false_iff_ne, bne_iff_ne, bne_eq_false_iff_eq, ne_eq, Bool.not_eq_eq_eq_not, Bool.not_true, Bool.not_false] at hZ) <;> (try (first | rw [(hZ : _ = false)] | rw [(hZ : _ = true)])) <;> skip)
    | (refine vc_cx (k := 0) (next_v _ 20 (by omega) (by omega)) rfl rfl ?_; rintro _ _ ⟨_, rfl, _⟩; (try simp (config := { maxSteps := 2000000 }) (implicitDefEqProofs := false) (disch := first | omega | assumption | (simp only []; done) | fail) only [go_sem, cb, cc]))
    )
  rename_i c0 k0 hk0
  refine VLoop.simLe _ (.wk (.refl _)) ?_
  simp only [tmwk_nil, tmwk_cons, hpwk_nil, hpwk_cons, wk_go_nil, wk_go_cons, DV.wk, PV.wk]
  refine vloopW TD.st (fun s => s.k) ⟨k0, c0, [], smN_nil _, 0, by omega⟩ (by refine gc_of (keep := [0]) rfl rfl rfl (by decide) ?_ ?_ <;> (repeat' apply And.intro) <;> first | trivial | rfl | exact ⟨_, rfl, rfl, rfl, .inl ⟨rfl, rfl⟩⟩ | exact ⟨_, rfl, rfl, rfl, .inl ⟨cells_nums _ _ _, rfl⟩⟩ | exact ⟨_, rfl, rfl, rfl, .inl ⟨pvs_nums _ _, rfl⟩⟩ | exact ⟨_, rfl, rfl, rfl, .inr ⟨rfl, rfl⟩⟩) ?_
  intro s
  have hn := s.hn
  have hs := s.hs
  have hS := hs.smL (n := 65) (by omega)
  have go := s.go
  have goN := s.goN
  show vcode _ _ _ ⟨80, 1, [(6, .int .i64 s.k), (5, .int .i64 s.n), (4, .pv (.sl (fz encT s.l))), (0, .ptr 0 0)], [cb s.c]⟩
  (try simp (config := { maxSteps := 2000000 }) (implicitDefEqProofs := false) (disch := first | omega | assumption | (simp only []; done) | fail) only [go_sem, cb, cc])
  repeat' (first
    | (refine vrunG_split (fun hZ => ?_) (fun hZ => ?_) <;> (try rw [hZ]) <;> (try simp only [decide_eq_true_eq, decide_eq_false_iff_not, Bool.or_eq_true, Bool.and_eq_true, Bool.or_eq_false_iff, Bool.and_eq_false_imp, Bool.not_eq_true', Bool.not_eq_false', beq_iff_eq, beq_eq_false_iff_ne, bne_iff_ne, bne_eq_false_iff_eq, ne_eq, Bool.not_eq_eq_eq_not, Bool.not_true, Bool.not_false] at hZ) <;> (try (first | rw [(hZ : _ = false)] | rw [(hZ : _ = true)])) <;> skip)
    | (refine vbr_split (fun hZ => ?_) (fun hZ => ?_) <;> (try rw [hZ]) <;> (try simp only [decide_eq_true_eq, decide_eq_false_iff_not, Bool.or_eq_true, Bool.and_eq_true, Bool.or_eq_false_iff, Bool.and_eq_false_imp, Bool.not_eq_true', Bool.not_eq_false', beq_iff_eq, beq_eq_false_iff_ne, bne_iff_ne, bne_eq_false_iff_eq, ne_eq, Bool.not_eq_eq_eq_not, Bool.not_true, Bool.not_false] at hZ) <;> (try (first | rw [(hZ : _ = false)] | rw [(hZ : _ = true)])) <;> (try simp (config := { maxSteps := 2000000 }) (implicitDefEqProofs := false) (disch := first | omega | assumption | (simp only []; done) | fail) only [go_sem, ↓reduceIte, Nat.reduceLT, Nat.reduceBEq, Int.reduceLT, Int.reduceBEq]))
    | (refine vdrG_split (fun hZ => ?_) (fun hZ => ?_) <;> (try rw [hZ]) <;> (try simp only [decide_eq_true_eq, decide_eq_false_iff_not, Bool.or_eq_true, Bool.and_eq_true, Bool.or_eq_false_iff, Bool.and_eq_false_imp, Bool.not_eq_true', Bool.not_eq_false', beq_iff_eq, beq_eq_false_iff_ne, bne_iff_ne, bne_eq_false_iff_eq, ne_eq, Bool.not_eq_eq_eq_not, Bool.not_true, Bool.not_false] at hZ) <;> (try (first | rw [(hZ : _ = false)] | rw [(hZ : _ = true)])) <;> skip)
    | (refine vc_cx (k := 0) (next_v _ 4 (by omega) (by omega)) rfl rfl ?_; rintro _ _ ⟨_, rfl, _⟩; (try simp (config := { maxSteps := 2000000 }) (implicitDefEqProofs := false) (disch := first | omega | assumption | (simp only []; done) | fail) only [go_sem, Nat.reduceBEq, Int.reduceBEq, cb, cc]))
    | (refine vc_cx (k := 0) (next_v _ 6 (by omega) (by omega)) rfl rfl ?_; rintro _ _ ⟨_, rfl, _⟩; (try simp (config := { maxSteps := 2000000 }) (implicitDefEqProofs := false) (disch := first | omega | assumption | (simp only []; done) | fail) only [go_sem, cb, cc]))
    | (refine vc_cx (k := 0) (next_v _ 2 (by omega) (by omega)) rfl rfl ?_; rintro _ _ ⟨_, rfl, _⟩; (try simp (config := { maxSteps := 2000000 }) (implicitDefEqProofs := false) (disch := first | omega | assumption | (simp only []; done) | fail) only [go_sem, Nat.reduceBEq, Int.reduceBEq, cb, cc]))
    | (refine vc_cx (k := 0) (next12_v _ s.l hs _ _ (by omega) (by omega)) rfl rfl ?_; rintro _ _ ⟨_, rfl, _⟩; (try simp (config := { maxSteps := 2000000 }) (implicitDefEqProofs := false) (disch := first | omega | assumption) only [go_sem, Nat.reduceBEq, Int.reduceBEq, cb, cc]))
    | (refine vc_pure (rbegin_v s.l hS _) rfl ?_; (try simp (config := { maxSteps := 2000000 }) (implicitDefEqProofs := false) (disch := first | omega | assumption | (simp only []; done) | fail) only [go_sem, Nat.reduceBEq, Int.reduceBEq, tblD]))
    | (refine vc_pure (rsave_v s.l hS _) rfl ?_; (try simp (config := { maxSteps := 2000000 }) (implicitDefEqProofs := false) (disch := first | omega | assumption | (simp only []; done) | fail) only [go_sem, Nat.reduceBEq, Int.reduceBEq, tblD]))
    | (refine vc_pure (rback_v s.l hS _ _) rfl ?_; (try simp (config := { maxSteps := 2000000 }) (implicitDefEqProofs := false) (disch := first | omega | assumption | (simp only []; done) | fail) only [go_sem, Nat.reduceBEq, Int.reduceBEq, tblD]))
    | (refine vc_pure (rnote_v s.l hS _) rfl ?_; (try simp (config := { maxSteps := 2000000 }) (implicitDefEqProofs := false) (disch := first | omega | assumption) only [go_sem, Nat.reduceBEq, Int.reduceBEq, tblD]))
    )
  all_goals first
    | exact ⟨_, rfl, rfl, cc_nums _, rfl, ⟨_, _, rfl, hs, by omega⟩, _, rfl⟩
    | exact goN _ _ (noteS_sm _) (by omega) (by refine gc_of (keep := [0]) rfl rfl rfl (by decide) ?_ ?_ <;> (repeat' apply And.intro) <;> first | trivial | rfl | exact ⟨_, rfl, rfl, rfl, .inl ⟨rfl, rfl⟩⟩ | exact ⟨_, rfl, rfl, rfl, .inl ⟨cells_nums _ _ _, rfl⟩⟩ | exact ⟨_, rfl, rfl, rfl, .inl ⟨pvs_nums _ _, rfl⟩⟩ | exact ⟨_, rfl, rfl, rfl, .inr ⟨rfl, rfl⟩⟩)
    | exact go _ _ (beginS_sm _) (by omega) (by refine gc_of (keep := [0]) rfl rfl rfl (by decide) ?_ ?_ <;> (repeat' apply And.intro) <;> first | trivial | rfl | exact ⟨_, rfl, rfl, rfl, .inl ⟨rfl, rfl⟩⟩ | exact ⟨_, rfl, rfl, rfl, .inl ⟨cells_nums _ _ _, rfl⟩⟩ | exact ⟨_, rfl, rfl, rfl, .inl ⟨pvs_nums _ _, rfl⟩⟩ | exact ⟨_, rfl, rfl, rfl, .inr ⟨rfl, rfl⟩⟩)
    | exact go _ _ (saveS_sm _) (by omega) (by refine gc_of (keep := [0]) rfl rfl rfl (by decide) ?_ ?_ <;> (repeat' apply And.intro) <;> first | trivial | rfl | exact ⟨_, rfl, rfl, rfl, .inl ⟨rfl, rfl⟩⟩ | exact ⟨_, rfl, rfl, rfl, .inl ⟨cells_nums _ _ _, rfl⟩⟩ | exact ⟨_, rfl, rfl, rfl, .inl ⟨pvs_nums _ _, rfl⟩⟩ | exact ⟨_, rfl, rfl, rfl, .inr ⟨rfl, rfl⟩⟩)
    | exact go _ _ (backS_sm _ _) (by omega) (by refine gc_of (keep := [0]) rfl rfl rfl (by decide) ?_ ?_ <;> (repeat' apply And.intro) <;> first | trivial | rfl | exact ⟨_, rfl, rfl, rfl, .inl ⟨rfl, rfl⟩⟩ | exact ⟨_, rfl, rfl, rfl, .inl ⟨cells_nums _ _ _, rfl⟩⟩ | exact ⟨_, rfl, rfl, rfl, .inl ⟨pvs_nums _ _, rfl⟩⟩ | exact ⟨_, rfl, rfl, rfl, .inr ⟨rfl, rfl⟩⟩)
    | exact go _ _ hs (by omega) (by refine gc_of (keep := [0]) rfl rfl rfl (by decide) ?_ ?_ <;> (repeat' apply And.intro) <;> first | trivial | rfl | exact ⟨_, rfl, rfl, rfl, .inl ⟨rfl, rfl⟩⟩ | exact ⟨_, rfl, rfl, rfl, .inl ⟨cells_nums _ _ _, rfl⟩⟩ | exact ⟨_, rfl, rfl, rfl, .inl ⟨pvs_nums _ _, rfl⟩⟩ | exact ⟨_, rfl, rfl, rfl, .inr ⟨rfl, rfl⟩⟩)
    | skip
end Go.Proofs.Ytkbahhackcnnbaa

namespace Go.Proofs.Ytkbahhackcnnbaa
open Go.V Go
set_option maxRecDepth 100000
set_option linter.unusedSimpArgs false

theorem smL_set {l : List Tx} (h : smL l) (i : Nat) {t : Tx} (ht : t.sm) : smL (l.set i t) :=
  ⟨by rw [List.length_set]; exact h.1, fun x hx => by
    rcases List.mem_or_eq_of_mem_set hx with hx | rfl
    · exact h.2 x hx
    · exact ht⟩
theorem smN.snoc {n : Nat} {l : List Tx} (h : smN n l) {t : Tx} (ht : t.ss) : smN (n + 1) (l ++ [t]) :=
  ⟨by rw [List.length_append]; have := h.1; simp; omega, fun x hx => by
    rcases List.mem_append.1 hx with h1 | h1
    · exact h.2 x h1
    · simp at h1; subst h1; exact ht⟩
theorem appN (l : List Tx) (x y : Int) : cells encT l ++ [.pv (.lit (.int .i64 x)), .pv (.lit (.int .i64 y)), .pv (.lit (.int .i64 0)), .pv (.lit (.int .i64 0)), .pv (.sl []), .pv (.sl [])] = cells encT (l ++ [⟨x, y, 0, 0, [], []⟩]) := by rw [cells_app]; rfl
theorem sT0 (l : List Tx) (i : Nat) (x : Int) (h : i < l.length) : (cells encT l).set (i * 6) (.pv (.lit (.int .i64 x))) = cells encT (l.set i { l[i] with id := x }) := setF encT l i 0 _ _ h (by decide) rfl
theorem sT1 (l : List Tx) (i : Nat) (x : Int) (h : i < l.length) : (cells encT l).set (i * 6 + 1) (.pv (.lit (.int .i64 x))) = cells encT (l.set i { l[i] with st := x }) := setF encT l i 1 _ _ h (by decide) rfl
theorem sT2 (l : List Tx) (i : Nat) (x : Int) (h : i < l.length) : (cells encT l).set (i * 6 + 2) (.pv (.lit (.int .i64 x))) = cells encT (l.set i { l[i] with n := x }) := setF encT l i 2 _ _ h (by decide) rfl
theorem sT3 (l : List Tx) (i : Nat) (x : Int) (h : i < l.length) : (cells encT l).set (i * 6 + 3) (.pv (.lit (.int .i64 x))) = cells encT (l.set i { l[i] with b := x }) := setF encT l i 3 _ _ h (by decide) rfl
theorem gT (l : List Tx) (i j : Nat) (h : i < l.length) (hj : j < 6) : (cells encT l)[i * 6 + j]? = ((encT.enc l[i]).map DV.pv)[j]? := by
  have := cells_at encT l i h
  rw [← this, List.getElem?_take, if_pos (show j < encT.sz from hj), List.getElem?_drop]; rfl
theorem gT4 (l : List Tx) (i : Nat) (h : i < l.length) : (cells encT l)[i * 6 + 4]? = some (.pv (.sl (fz encI l[i].l))) := gT l i 4 h (by omega)
theorem gT5 (l : List Tx) (i : Nat) (h : i < l.length) : (cells encT l)[i * 6 + 5]? = some (.pv (.sl (fz encI l[i].s))) := gT l i 5 h (by omega)
theorem cT (i j n : Nat) (h : i < n ∧ j < 6) : (i * 6 + j < n * 6) = True := eq_true (by omega)
theorem cT0 (i n : Nat) (h : i < n) : (i * 6 < n * 6) = True := eq_true (by omega)
theorem wk_go_set (L : List DV) (i : Nat) (d : DV) : DV.wk.go (L.set i d) = (DV.wk.go L).set i d.wk := by rw [wk_go_map, wk_go_map, List.map_set]
theorem own4 (A B D F : Blk) (T : TypeId) (q : List Int) (x : Int) : frzP 1 [A, B, D, F, ⟨T, true, cells encI (q ++ [x])⟩] 3 (.own 4 1 0 (q.length + 1)) = some (.sl (fz encI (q ++ [x]))) := by
  have := own_frzP (n := 1) (k := 4) (hp := [A, B, D, F, ⟨T, true, cells encI (q ++ [x])⟩]) (e := encI) (by decide) (q ++ [x]) rfl 2
  rw [List.length_append] at this
  exact this
theorem fzo4 (A B D F : Blk) (T : TypeId) (l : List Tx) (i : Nat) (x : Int) (h : i < l.length) : frzC 1 [A, B, D, F, ⟨T, true, cells encI (l[i].l ++ [x])⟩] 0 6 l.length (some ((cells encT l).set (i * 6 + 4) (.own 4 1 0 (l[i].l.length + 1)))) = some (.sl (fz encT (l.set i { l[i] with l := l[i].l ++ [x] }))) :=
  frzF_own encT rfl h (by decide) rfl (own4 A B D F T _ x)
theorem fzo5 (A B D F : Blk) (T : TypeId) (l : List Tx) (i : Nat) (x : Int) (h : i < l.length) : frzC 1 [A, B, D, F, ⟨T, true, cells encI (l[i].s ++ [x])⟩] 0 6 l.length (some ((cells encT l).set (i * 6 + 5) (.own 4 1 0 (l[i].s.length + 1)))) = some (.sl (fz encT (l.set i { l[i] with s := l[i].s ++ [x] }))) :=
  frzF_own encT rfl h (by decide) rfl (own4 A B D F T _ x)
set_option maxHeartbeats 4000000 in
theorem odd12_v (c : C) (l : List Tx) (hs : smN 65 l) : VCalls Try.prog 9 [.ptr 0 0, .pv (.sl (fz encT l))] [cb c] (CX fun r => ∃ m : List Tx, r = .pv (.sl (fz encT m)) ∧ smL m) := by
  refine vcalls_dropk (fn := Try.f9) Try.func9 rfl (by kernel_rfl) (by simp [Try.f9]) ?_
  have hl := hs.1
  simp (config := { maxSteps := 2000000 }) (implicitDefEqProofs := false) (disch := first | omega | assumption | (simp only []; done) | fail) only [go_sem, ↓reduceIte, reduceCtorEq, Nat.reduceAdd, Nat.reduceBEq, Int.reduceAdd, Int.reduceBEq, Try.f9]
  have hm := hs.2
  have hb := hs.2
  have h9 := fun (i : Nat) (h : i < l.length) => hb _ (List.getElem_mem h)
  have hb1 : ∀ (i : Nat) (h : i < l.length), (l[i].l.length * 8 ≤ 140737488355328) = True := fun i h => eq_true (by have := (hb _ (List.getElem_mem h)).1; omega)
  have hb2 : ∀ (i : Nat) (h : i < l.length), ((l[i].l.length + 1) * 8 ≤ 140737488355328) = True := fun i h => eq_true (by have := (hb _ (List.getElem_mem h)).1; omega)
  have hb3 : ∀ (i : Nat) (h : i < l.length), (l[i].s.length * 8 ≤ 140737488355328) = True := fun i h => eq_true (by have := (hb _ (List.getElem_mem h)).2; omega)
  have hb4 : ∀ (i : Nat) (h : i < l.length), ((l[i].s.length + 1) * 8 ≤ 140737488355328) = True := fun i h => eq_true (by have := (hb _ (List.getElem_mem h)).2; omega)
  (try simp (config := { maxSteps := 2000000 }) (implicitDefEqProofs := false) (disch := first | omega | assumption | (simp only []; done) | fail) only [go_sem, ↓reduceIte, Nat.reduceAdd, Int.reduceAdd, cb, cc, srcT, mem_ok, mem_ok])
  repeat' (first
    | (refine vrunG_split (fun hZ => ?_) (fun hZ => ?_) <;> (try rw [hZ]) <;> (try simp only [decide_eq_true_eq, decide_eq_false_iff_not, Bool.or_eq_true, Bool.and_eq_true, Bool.or_eq_false_iff, Bool.and_eq_false_imp, Bool.not_eq_true', Bool.not_eq_false', beq_iff_eq, beq_eq_false_iff_ne, bne_iff_ne, bne_eq_false_iff_eq, ne_eq, Bool.not_eq_eq_eq_not, Bool.not_true, Bool.not_false] at hZ) <;> (try (first | rw [(hZ : _ = false)] | rw [(hZ : _ = true)])) <;> (try simp (config := { maxSteps := 2000000 }) (implicitDefEqProofs := false) (disch := first | omega | assumption | (simp only []; done) | fail) only [go_sem, Nat.reduceBEq, Int.reduceBEq]))
    | (refine vbr_split (fun hZ => ?_) (fun hZ => ?_) <;> (try rw [hZ]) <;> (try simp only [decide_eq_true_eq, decide_eq_false_iff_not, Bool.or_eq_true, Bool.and_eq_true, Bool.or_eq_false_iff, Bool.and_eq_false_imp, Bool.not_eq_true', Bool.not_eq_false', beq_iff_eq, beq_eq_false_iff_ne, bne_iff_ne, bne_eq_false_iff_eq, ne_eq, Bool.not_eq_eq_eq_not, Bool.not_true, Bool.not_false] at hZ) <;> (try (first | rw [(hZ : _ = false)] | rw [(hZ : _ = true)])) <;> (try simp (config := { maxSteps := 2000000 }) (implicitDefEqProofs := false) (disch := first | omega | assumption | (simp only []; done) | fail) only [go_sem, ↓reduceIte, reduceCtorEq, Nat.reduceAdd, Nat.reduceLT, Nat.reduceBEq, Int.reduceLT, Int.reduceAdd, Int.reduceBEq, srcI, gT4, gT5, hb1, hb3]))
    | (refine vdrG_split (fun hZ => ?_) (fun hZ => ?_) <;> (try rw [hZ]) <;> (try simp only [decide_eq_true_eq, decide_eq_false_iff_not, Bool.or_eq_true, Bool.and_eq_true, Bool.or_eq_false_iff, Bool.and_eq_false_imp, Bool.not_eq_true', Bool.not_eq_false', beq_iff_eq, beq_eq_false_iff_ne, bne_iff_ne, bne_eq_false_iff_eq, ne_eq, Bool.not_eq_eq_eq_not, Bool.not_true, Bool.not_false] at hZ) <;> (try (first | rw [(hZ : _ = false)] | rw [(hZ : _ = true)])) <;> skip)
    | (refine vc_cx (k := 0) (next_v _ 6 (by omega) (by omega)) rfl rfl ?_; rintro _ _ ⟨_, rfl, _⟩; (try simp (config := { maxSteps := 2000000 }) (implicitDefEqProofs := false) (disch := first | omega | assumption | (simp only []; done) | fail) only [go_sem, Nat.reduceBEq, Int.reduceBEq, cb, cc]))
    | (refine vc_cx (k := 0) (next_v _ 5 (by omega) (by omega)) rfl rfl ?_; rintro _ _ ⟨_, rfl, _⟩; (try simp (config := { maxSteps := 2000000 }) (implicitDefEqProofs := false) (disch := first | omega | assumption | (simp only []; done) | (simp only [List.length_set, List.length_append, List.length_cons, List.length_nil] <;> omega) | fail) only [go_sem, V.splice, V.mk, ↓reduceIte, reduceCtorEq, Nat.reduceAdd, Nat.reduceLT, Nat.reduceLeDiff, Nat.reduceBEq, Int.reduceLT, Int.reduceAdd, Int.reduceBEq, cb, cc, lenT, allT, frzT, mem_ok, mem_ok, wk_T, appN, sT1, cT]))
    | (refine vc_cx (k := 0) (next_v _ 9 (by omega) (by omega)) rfl rfl ?_; rintro _ _ ⟨_, rfl, _⟩; (try simp (config := { maxSteps := 2000000 }) (implicitDefEqProofs := false) (disch := first | omega | assumption | (simp only []; done) | (simp only [List.length_set] <;> omega) | fail) only [go_sem, V.splice, V.mk, ↓reduceIte, reduceCtorEq, Nat.reduceAdd, Nat.reduceLT, Nat.reduceLeDiff, Nat.reduceBEq, Int.reduceLT, Int.reduceAdd, Int.reduceBEq, cb, cc, lenT, frzT, lenI, allI, app_I, wk_T, sT3, cT, fzo4, fzo5, hb2, hb4, wk_go_set]))
    | (refine vc_cx (k := 0) (int_v _) rfl rfl ?_; rintro _ _ ⟨_, rfl, _⟩; (try simp (config := { maxSteps := 2000000 }) (implicitDefEqProofs := false) (disch := first | omega | assumption | (simp only []; done) | (simp only [List.length_set] <;> omega) | fail) only [go_sem, ↓reduceIte, reduceCtorEq, Nat.reduceLT, Nat.reduceBEq, Int.reduceLT, Int.reduceBEq, cb, cc, lenT, frzT, wk_T, sT0, sT2, cT, cT0]))
    | (refine vc_cx (k := 0) (next_v _ l.length (by omega) (by omega)) rfl rfl ?_; rintro _ _ ⟨_, rfl, _⟩; (try simp (config := { maxSteps := 2000000 }) (implicitDefEqProofs := false) (disch := first | omega | assumption | (simp only []; done) | fail) only [go_sem, Nat.reduceBEq, Int.reduceBEq, cb, cc]))
    )
  all_goals first
    | exact ⟨_, rfl, rfl, cc_nums _, rfl, ⟨_, rfl, (hs.snoc ⟨by simp, by simp⟩).smL (by omega)⟩, _, rfl⟩
    | (refine ⟨_, rfl, rfl, cc_nums _, rfl, ⟨_, rfl, smL_set (hs.smL (by omega)) _ ?_⟩, _, rfl⟩
       refine ⟨?_, ?_⟩ <;> dsimp only <;> first
         | exact Nat.le_trans (h9 _ _).1 (by decide)
         | exact Nat.le_trans (h9 _ _).2 (by decide)
         | exact Nat.le_trans (Nat.le_of_eq List.length_append) (Nat.le_trans (Nat.add_le_add_right (h9 _ _).1 1) (by decide))
         | exact Nat.le_trans (Nat.le_of_eq List.length_append) (Nat.le_trans (Nat.add_le_add_right (h9 _ _).2 1) (by decide)))
    | skip
end Go.Proofs.Ytkbahhackcnnbaa

namespace Go.Proofs.Ytkbahhackcnnbaa
open Go.V Go
set_option maxRecDepth 100000
set_option linter.unusedSimpArgs false

/-- The tables of the example. -/
def w0 : List Tx := [⟨1, 1, 0, 0, [], []⟩]
def w1 : List Tx := [⟨1, 1, 1, 0, [1], []⟩]
def w2 : List Tx := [⟨1, 1, 1, 0, [1], [1]⟩]
def w3 : List Tx := [⟨1, 1, 2, 0, [1, 2], [1]⟩]
def w4 : List Tx := [⟨1, 1, 3, 0, [1, 2, 3], [1]⟩]
def w5 : List Tx := [⟨1, 2, 3, 1, [1, 2, 3], [1]⟩]
theorem sm_one (t : Tx) (h : t.l.length ≤ 9223372036854775807 ∧ t.s.length ≤ 9223372036854775807) : smL [t] := ⟨by simp, fun x hx => by simp at hx; subst hx; exact h⟩
theorem awk_v : VCalls Try.prog 6 [] [] (Ret (.bool true)) := by
  have c0 := begin_v [] ⟨by simp, by simp⟩ 1
  rw [show beginS [] 1 = (w0, 0) by kernel_rfl] at c0
  have c0 : VCalls Try.prog 17 [.pv (.slc []), .int .i64 1] [] (Ret (tblD (w0, 0))) := VCalls.wkA c0
  have c1 := note_v w0 (sm_one _ (by decide)) ⟨1, 1, 1, 0, 0, 0, Ch0, []⟩
  rw [show noteS w0 ⟨1, 1, 1, 0, 0, 0, Ch0, []⟩ = (w1, 0) by kernel_rfl] at c1
  have c2 := save_v w1 (sm_one _ (by decide)) 1
  rw [show saveS w1 1 = (w2, 0) by kernel_rfl] at c2
  have c3 := note_v w2 (sm_one _ (by decide)) ⟨2, 1, 1, 1, 0, 0, Ch0, []⟩
  rw [show noteS w2 ⟨2, 1, 1, 1, 0, 0, Ch0, []⟩ = (w3, 0) by kernel_rfl] at c3
  have c4 := note_v w3 (sm_one _ (by decide)) ⟨3, 1, 1, 2, 0, 0, Ch0, []⟩
  rw [show noteS w3 ⟨3, 1, 1, 2, 0, 0, Ch0, []⟩ = (w4, 0) by kernel_rfl] at c4
  have c5 := back_v w4 (sm_one _ (by decide)) 1 0
  rw [show backS w4 1 0 = (w5, 0) by kernel_rfl] at c5
  have l5 : (w5.length : Int) = 1 := rfl
  have g5 : (fz encT w5)[0]? = some [.lit (.int .i64 1), .lit (.int .i64 2), .lit (.int .i64 3), .lit (.int .i64 1), .sl (fz encI [1, 2, 3]), .sl (fz encI [1])] := rfl
  unfold tblD at c0 c1 c2 c3 c4 c5
  generalize w0 = a0 at *
  generalize w1 = a1 at *
  generalize w2 = a2 at *
  generalize w3 = a3 at *
  generalize w4 = a4 at *
  generalize w5 = a5 at *
  refine vcalls_drop (fn := Try.f6) Try.func6 rfl (by kernel_rfl) (by simp [Try.f6]) ?_
  simp (config := { maxSteps := 2000000 }) (implicitDefEqProofs := false) (disch := first | omega | assumption | (simp only []; done) | fail) only [go_sem, Try.f6]
  skip
  repeat' (first
    | (refine vrunG_split (fun hZ => ?_) (fun hZ => ?_) <;> (try rw [hZ]) <;> (try simp only [decide_eq_true_eq, decide_eq_false_iff_not, Bool.or_eq_true, Bool.and_eq_true, Bool.or_eq_false_iff, Bool.and_eq_false_imp, Bool.not_eq_true', Bool.not_eq_false', beq_iff_eq, beq_eq_false_iff_ne, bne_iff_ne, bne_eq_false_iff_eq, ne_eq, Bool.not_eq_eq_eq_not, Bool.not_true, Bool.not_false] at hZ) <;> (try (first | rw [(hZ : _ = false)] | rw [(hZ : _ = true)])) <;> skip)
    | (refine vbr_split (fun hZ => ?_) (fun hZ => ?_) <;> (try rw [hZ]) <;> (try simp only [decide_eq_true_eq, decide_eq_false_iff_not, Bool.or_eq_true, Bool.and_eq_true, Bool.or_eq_false_iff, Bool.and_eq_false_imp, Bool.not_eq_true', Bool.not_eq_false', beq_iff_eq, beq_eq_false_iff_ne, bne_iff_ne, bne_eq_false_iff_eq, ne_eq, Bool.not_eq_eq_eq_not, Bool.not_true, Bool.not_false] at hZ) <;> (try (first | rw [(hZ : _ = false)] | rw [(hZ : _ = true)])) <;> skip)
    | (refine vdrG_split (fun hZ => ?_) (fun hZ => ?_) <;> (try rw [hZ]) <;> (try simp only [decide_eq_true_eq, decide_eq_false_iff_not, Bool.or_eq_true, Bool.and_eq_true, Bool.or_eq_false_iff, Bool.and_eq_false_imp, Bool.not_eq_true', Bool.not_eq_false', beq_iff_eq, beq_eq_false_iff_ne, bne_iff_ne, bne_eq_false_iff_eq, ne_eq, Bool.not_eq_eq_eq_not, Bool.not_true, Bool.not_false] at hZ) <;> (try (first | rw [(hZ : _ = false)] | rw [(hZ : _ = true)])) <;> skip)
    | (refine vc_pure (c0) rfl ?_; (try simp (config := { maxSteps := 2000000 }) (implicitDefEqProofs := false) (disch := first | omega | assumption | (simp only []; done) | fail) only [go_sem, V.splice, ↓reduceIte, Nat.reduceAdd, Nat.reduceLeDiff, Nat.reduceBEq, Int.reduceAdd, Int.reduceBEq]))
    | (refine vc_pure (c1) rfl ?_; (try simp (config := { maxSteps := 2000000 }) (implicitDefEqProofs := false) (disch := first | omega | assumption | (simp only []; done) | fail) only [go_sem, Nat.reduceBEq, Int.reduceBEq]))
    | (refine vc_pure (c2) rfl ?_; (try simp (config := { maxSteps := 2000000 }) (implicitDefEqProofs := false) (disch := first | omega | assumption | (simp only []; done) | fail) only [go_sem, V.splice, ↓reduceIte, Nat.reduceAdd, Nat.reduceLeDiff, Nat.reduceBEq, Int.reduceAdd, Int.reduceBEq]))
    | (refine vc_pure (c3) rfl ?_; (try simp (config := { maxSteps := 2000000 }) (implicitDefEqProofs := false) (disch := first | omega | assumption | (simp only []; done) | fail) only [go_sem, V.splice, ↓reduceIte, Nat.reduceAdd, Nat.reduceLeDiff, Nat.reduceBEq, Int.reduceAdd, Int.reduceBEq]))
    | (refine vc_pure (c4) rfl ?_; (try simp (config := { maxSteps := 2000000 }) (implicitDefEqProofs := false) (disch := first | omega | assumption | (simp only []; done) | fail) only [go_sem, Nat.reduceBEq, Int.reduceBEq]))
    | (refine vc_pure (c5) rfl ?_; (try simp (config := { maxSteps := 2000000 }) (implicitDefEqProofs := false) (disch := first | omega | assumption | (simp only [List.length_cons, List.length_nil, Nat.zero_add, Nat.reduceAdd]; done) | fail) only [go_sem, ↓reduceIte, reduceCtorEq, Nat.reduceAdd, Nat.reduceLT, Nat.reduceBEq, Int.reduceToNat, Int.reduceLT, Int.reduceAdd, Int.reduceBEq, l5, g5]))
    )
  all_goals skip
end Go.Proofs.Ytkbahhackcnnbaa

namespace Go.Proofs.Ytkbahhackcnnbaa
open Go.V Go
set_option maxRecDepth 100000
set_option linter.unusedSimpArgs false

structure OL where
  i : Nat
  hi : i ≤ 3
  c : C
def tt (a b c : List Tx) : Blk := ⟨23, true, [.pv (.sl (fz encT a)), .pv (.sl (fz encT b)), .pv (.sl (fz encT c))]⟩
structure IL (n : Nat) where
  j : Nat
  hj : j ≤ n
end Go.Proofs.Ytkbahhackcnnbaa

namespace Go.Proofs.Ytkbahhackcnnbaa
open Go.V Go Go.ChangeShapes Go.WideShapes Go.ChangeAt Go.RowKit
set_option maxRecDepth 100000
set_option linter.unusedSimpArgs false

theorem rows_I : ∀ (xs : List (List PV)), (∀ c ∈ xs, OkSs [.int .i64] c) → ∃ l : List Int, xs = fz encI l
  | [], _ => ⟨[], rfl⟩
  | c :: r, h => by
    obtain ⟨l, hl⟩ := rows_I r fun c hc => h c (List.mem_cons_of_mem _ hc)
    obtain ⟨h1, h2⟩ := h c (by simp)
    obtain ⟨d, e, n, rfl, _⟩ := h2 0 _ rfl
    match c, h1 with
    | [a], _ =>
      simp at e
      subst e
      exact ⟨n :: l, by rw [hl]; rfl⟩
theorem rows_T : ∀ (xs : List (List PV)), (∀ c ∈ xs, c.length = 6 ∧ ∀ (i : Nat) (k : CK), ([.pl (.int .i64), .pl (.int .i64), .pl (.int .i64), .pl (.int .i64), .rows [.int .i64], .rows [.int .i64]] : List CK)[i]? = some k → ∃ d, c[i]? = some d ∧ OkC k d) → ∃ l : List Tx, xs = fz encT l ∧ ∀ t ∈ l, t.sm
  | [], _ => ⟨[], rfl, by simp⟩
  | c :: r, h => by
    obtain ⟨l, hl, hs⟩ := rows_T r fun c hc => h c (List.mem_cons_of_mem _ hc)
    obtain ⟨h1, h3⟩ := h c (by simp)
    obtain ⟨d0, e0, n0, rfl, _⟩ := h3 0 _ rfl
    obtain ⟨d1, e1, n1, rfl, _⟩ := h3 1 _ rfl
    obtain ⟨d2, e2, n2, rfl, _⟩ := h3 2 _ rfl
    obtain ⟨d3, e3, n3, rfl, _⟩ := h3 3 _ rfl
    obtain ⟨d4, e4, x4, rfl, l4, r4⟩ := h3 4 _ rfl
    obtain ⟨d5, e5, x5, rfl, l5, r5⟩ := h3 5 _ rfl
    obtain ⟨q, rfl⟩ := rows_I x4 r4
    obtain ⟨s, rfl⟩ := rows_I x5 r5
    rw [fz_len] at l4 l5
    match c, h1 with
    | [a0, a1, a2, a3, a4, a5], _ =>
      simp at e0 e1 e2 e3 e4 e5
      subst e0 e1 e2 e3 e4 e5
      refine ⟨⟨n0, n1, n2, n3, q, s⟩ :: l, by rw [hl]; rfl, fun t ht => ?_⟩
      rcases List.mem_cons.1 ht with rfl | ht
      · exact ⟨l4, l5⟩
      · exact hs t ht
theorem arg_txs {H : Type} {enc : TypeId × Value → H} {r0 : Reach} {b0 : Nat} {W : World} {v : Value} {d : DataW H} {ps : List MemPlace} (hval : Value.okWide Try.prog W r0 b0 23 v) (h : DataW.Trod enc Try.prog W 0 (fun _ => true) true 23 v d ps) :
    ∃ l : List Tx, RelD W β0 [] (.pv (.sl (fz encT l))) v ∧ l.length ≤ 9223372036854775807 ∧ ∀ t ∈ l, t.sm := by
  obtain ⟨xs, h1, h2, h3⟩ := arg_rows (n := 8) (e := 52) (r := [.pl (.int .i64), .pl (.int .i64), .pl (.int .i64), .pl (.int .i64), .rows [.int .i64], .rows [.int .i64]]) Try.underlying23 (by kernel_rfl) (by kernel_rfl) (by decide) hval h
  obtain ⟨l, rfl, hs⟩ := rows_T xs h3
  exact ⟨l, h1, by rw [fz_len] at h2; exact h2, hs⟩
end Go.Proofs.Ytkbahhackcnnbaa

namespace Go.Proofs.Ytkbahhackcnnbaa
open Go.V Go
set_option maxRecDepth 100000
set_option linter.unusedSimpArgs false

theorem pe : isPtr Try.prog 108 = true := by kernel_rfl
theorem cto : toU Try.prog 108 122 = true := by kernel_rfl
theorem cfr : frU Try.prog 122 108 110 = true := by kernel_rfl
theorem cob : Try.prog.cellsOf 110 = 2 := by kernel_rfl
theorem uok : ustrOk Try.prog 119 5 = true := by kernel_rfl
theorem noEscape_v (x : DV) (hp : Heap) : VCalls Try.prog 94 [x] hp fun r h' => r = x ∧ h' = hp :=
  vcalls_same Try.func94 (by kernel_rfl) (by kernel_rfl) rfl rfl

/-- A builder: fresh; used, and empty; used, with bytes. -/
def nilP : DV := .pv (.lit (.pointer none))
def bld (a b : DV) : Blk := ⟨110, true, [a, b]⟩
def bE : DV := .pv (.slc [])

theorem check0 : VCalls Try.prog 89 [.ptr 0 0] [bld nilP bE] (fun r h' => r = .tup [] ∧ h' = [bld (.ptr 0 0) bE]) := by
  refine vcalls_keep (fn := Try.f89) Try.func89 rfl (by kernel_rfl) (by simp [Try.f89]) ?_
  simp (config := { maxSteps := 2000000 }) (implicitDefEqProofs := false) (disch := first | omega | assumption | (simp only []; done) | fail) only [go_sem, ↓reduceIte, reduceCtorEq, Nat.reduceAdd, Nat.reduceBEq, Int.reduceAdd, Int.reduceBEq, Try.f89, bld, nilP, bE, ptrEq_eql pe, ptrEq_neq pe, convPtr_to cto, convPtr_from cfr, ofConst_ptr]
  refine (noEscape_v _ _).mono ?_
  rintro r h' ⟨rfl, rfl⟩
  simp (config := { maxSteps := 2000000 }) (implicitDefEqProofs := false) (disch := first | omega | assumption | (simp only []; done) | fail) only [go_sem, ↓reduceIte, reduceCtorEq, Nat.reduceAdd, Nat.reduceBEq, Int.reduceAdd, Int.reduceBEq, ptrEq_eql pe, ptrEq_neq pe, convPtr_to cto, convPtr_from cfr, cob, results_nil]

/-- The bytes of a builder. -/
def bufB (l : List UInt8) : Blk := ⟨5, true, cells encU l⟩
theorem check2 (l : List UInt8) : VCalls Try.prog 89 [.ptr 0 0] [bld (.ptr 0 0) (.own 1 1 0 l.length), bufB l] (fun r h' => r = .tup [] ∧ h' = [bld (.ptr 0 0) (.own 1 1 0 l.length), bufB l]) := by
  refine vcalls_keep (fn := Try.f89) Try.func89 rfl (by kernel_rfl) (by simp [Try.f89]) ?_
  simp (config := { maxSteps := 2000000 }) (implicitDefEqProofs := false) (disch := first | omega | assumption | (simp only []; done) | fail) only [go_sem, ↓reduceIte, reduceCtorEq, Nat.reduceAdd, Nat.reduceLT, Nat.reduceBEq, Int.reduceLT, Int.reduceAdd, Int.reduceBEq, Try.f89, bld, bufB, ptrEq_eql pe, ptrEq_neq pe, convPtr_to cto, convPtr_from cfr, ofConst_ptr, results_nil]

/-- WriteString, at a fresh builder. -/
theorem ws0 (s : List UInt8) (hs : s.length ≤ 1100000000) : VCalls Try.prog 76 [.ptr 0 0, .pv (.str s)] [bld nilP bE] (fun r h' => r = .tup [.int .i64 s.length, .pv (.lit .nilIface)] ∧ h' = [bld (.ptr 0 0) (.own 1 1 0 s.length), bufB s]) := by
  refine vcalls_keep (fn := Try.f76) Try.func76 rfl (by kernel_rfl) (by simp [Try.f76]) ?_
  simp (config := { maxSteps := 2000000 }) (implicitDefEqProofs := false) (disch := first | omega | assumption | (simp only []; done) | fail) only [go_sem, Nat.reduceAdd, Nat.reduceBEq, Int.reduceAdd, Int.reduceBEq, Try.f76, bld, nilP, bE, ptrEq_eql pe, ptrEq_neq pe, convPtr_to cto, convPtr_from cfr, ofConst_nilIface]
  refine check0.mono ?_
  rintro r h' ⟨rfl, rfl⟩
  have hs2 : s.length ≤ 140737488355328 := by omega
  simp (config := { maxSteps := 2000000 }) (implicitDefEqProofs := false) (disch := first | omega | assumption | (simp only []; done) | fail) only [go_sem, ↓reduceIte, reduceCtorEq, Nat.reduceAdd, Nat.reduceLT, Nat.reduceBEq, Int.reduceLT, Int.reduceAdd, Int.reduceBEq, bld, bE, ptrEq_eql pe, ptrEq_neq pe, convPtr_to cto, convPtr_from cfr, ofConst_nilIface, hs2, bufB, cellsU]

/-- WriteByte. -/
theorem wb_v (l : List UInt8) (b : UInt8) (hl : l.length ≤ 1100000000) : VCalls Try.prog 77 [.ptr 0 0, .int .u8 b.toNat] [bld (.ptr 0 0) (.own 1 1 0 l.length), bufB l] (fun r h' => r = .pv (.lit .nilIface) ∧ h' = [bld (.ptr 0 0) (.own 3 1 0 (l ++ [b]).length), ⟨5, false, []⟩, bufB [b], bufB (l ++ [b])]) := by
  refine vcalls_keep (fn := Try.f77) Try.func77 rfl (by kernel_rfl) (by simp [Try.f77]) ?_
  simp (config := { maxSteps := 2000000 }) (implicitDefEqProofs := false) (disch := first | omega | assumption | (simp only []; done) | fail) only [go_sem, Nat.reduceAdd, Nat.reduceBEq, Int.reduceAdd, Int.reduceBEq, Try.f77, bld, bufB, ptrEq_eql pe, ptrEq_neq pe, convPtr_to cto, convPtr_from cfr, ofConst_nilIface]
  refine (check2 l).mono ?_
  rintro r h' ⟨rfl, rfl⟩
  have hs2 : l.length + 1 ≤ 140737488355328 := by omega
  simp (config := { maxSteps := 2000000 }) (implicitDefEqProofs := false) (disch := first | omega | assumption | (simp only []; done) | fail) only [go_sem, V.splice, V.mk, ↓reduceIte, reduceCtorEq, Nat.reduceAdd, Nat.reduceLT, Nat.reduceLeDiff, Nat.reduceBEq, Int.reduceLT, Int.reduceAdd, Int.reduceBEq, bld, bufB, ptrEq_eql pe, ptrEq_neq pe, convPtr_to cto, convPtr_from cfr, ofConst_nilIface, hs2]
  have e1 : (cells encU l).take l.length = cells encU l := by rw [List.take_of_length_le]; rw [cellsU_len]; exact Nat.le_refl _
  rw [e1, cells_app, List.length_append]
  rfl

theorem str_v (l : List UInt8) (hl : l.length ≤ 1100000000) (h0 : 0 < l.length) : VCalls Try.prog 78 [.ptr 0 0] [bld (.ptr 0 0) (.own 1 1 0 l.length), bufB l] (fun r h' => r = .pv (.str l) ∧ h' = [bld (.ptr 0 0) (.own 1 1 0 l.length), ⟨5, false, []⟩]) := by
  refine vcalls_keep (fn := Try.f78) Try.func78 rfl (by kernel_rfl) (by simp [Try.f78]) ?_
  simp (config := { maxSteps := 2000000 }) (implicitDefEqProofs := false) (disch := first | omega | assumption | (simp only []; done) | fail) only [go_sem, Nat.reduceAdd, Int.reduceAdd, Try.f78, bld, bufB, ptrEq_eql pe, ptrEq_neq pe, convPtr_to cto, convPtr_from cfr]
  refine vspine (id := 1) [0, 1, 2, 3, 5, 6, 7, 8, 9] [⟨[], [], 4, [0, 1, 2, 5, 6, 7, 8, 9], []⟩, ⟨[], [], 10, [0, 1, 2, 3, 5, 6, 7, 8], []⟩, ⟨[], [], 11, [], []⟩] (by kernel_rfl) (by kernel_rfl) ?_
  have hu := ustr_eq (P := Try.prog) (hp := [bld (.ptr 0 0) (.own 1 1 0 l.length), bufB l]) (k := 1) (n := l.length) uok rfl rfl h0 (by omega)
  simp only [bld, bufB] at hu
  simp (config := { maxSteps := 2000000 }) (implicitDefEqProofs := false) (disch := first | omega | assumption | (simp only []; done) | fail) only [go_sem, ↓reduceIte, reduceCtorEq, Nat.reduceLT, Nat.reduceBEq, Int.reduceLT, Int.reduceBEq, ptrEq_eql pe, ptrEq_neq pe, convPtr_to cto, convPtr_from cfr, sdata_own h0, hu]
end Go.Proofs.Ytkbahhackcnnbaa

namespace Go.Proofs.Ytkbahhackcnnbaa
open Go.V Go
set_option maxRecDepth 100000
set_option linter.unusedSimpArgs false

/-- A byte of a number. -/
def byteX (n : Int) (i : Nat) : Int := IntKind.u8.wrap ((IntKind.u64.wrap n).fdiv (2 ^ min (8 * (i : Int)).toNat 64))
def byteI (n : Int) (i : Nat) : UInt8 := UInt8.ofNat (byteX n i).toNat
theorem wrap_u8_eq (x : Int) : IntKind.u8.wrap x = x % 256 := by
  simp [IntKind.wrap, IntKind.signed, IntKind.bits]
theorem byteI_eq (n : Int) (i : Nat) : byteX n i = ((byteI n i).toNat : Int) := by
  unfold byteI byteX
  rw [wrap_u8_eq]
  generalize (IntKind.u64.wrap n).fdiv (2 ^ min (8 * (i : Int)).toNat 64) = y
  simp only [UInt8.toNat_ofNat']
  omega
def putL (s : List UInt8) (n : Int) (k : Nat) : List UInt8 := s ++ (List.range k).map (byteI n)

theorem putL_len (s : List UInt8) (n : Int) (k : Nat) : (putL s n k).length = s.length + k := by simp [putL]
theorem putL_succ (s : List UInt8) (n : Int) (k : Nat) : putL s n (k + 1) = putL s n k ++ [byteI n k] := by simp [putL, List.range_succ]

set_option maxHeartbeats 1000000 in
theorem put_v (s : List UInt8) (hs : s.length ≤ 1000000000) (n : Int) (k : Nat) (h1 : 1 ≤ k) (h8 : k ≤ 8) : VCalls Try.prog 57 [.pv (.str s), .int .i64 n, .int .i64 k] [] (Ret (.pv (.str (putL s n k)))) := by
  refine vcalls_drop (fn := Try.f57) Try.func57 rfl (by kernel_rfl) (by simp [Try.f57]) ?_
  simp (config := { maxSteps := 2000000 }) (implicitDefEqProofs := false) (disch := first | omega | assumption | (simp only []; done) | fail) only [go_sem, ↓reduceIte, Nat.reduceAdd, Nat.reduceBEq, Int.reduceAdd, Int.reduceBEq, Try.f57]
  refine (ws0 s (by omega)).mono ?_
  rintro r h' ⟨rfl, rfl⟩
  simp (config := { maxSteps := 2000000 }) (implicitDefEqProofs := false) (disch := first | omega | assumption | (simp only []; done) | fail) only [go_sem, Nat.reduceBEq, Int.reduceBEq, bld]
  refine vloopW (fun i : {i : Nat // i ≤ k} => ⟨31, 0, [(19, .int .i64 i.1), (18, .int .i64 k), (7, .ptr 0 0), (1, .int .i64 n)], [bld (.ptr 0 0) (.own 1 1 0 (putL s n i.1).length), bufB (putL s n i.1)]⟩) (fun i => k - i.1) ⟨0, by omega⟩ (.inl (by simpa only [putL, List.range_zero, List.map_nil, List.append_nil] using (by refine ⟨rfl, rfl, by simp, ?_, ?_, .inr ⟨?_, ?_⟩⟩ <;> (repeat' apply And.intro) <;> first | rfl | trivial | (intro _; first | rfl | apply cells_refs)))) ?_
  intro i
  obtain ⟨i, hi⟩ := i
  dsimp only
  simp (config := { maxSteps := 2000000 }) (implicitDefEqProofs := false) (disch := first | omega | assumption | (simp only []; done) | fail) only [go_sem, Nat.reduceBEq, Int.reduceBEq, bld, bufB]
  refine vbr_split (fun hc => ?_) (fun hc => ?_) <;> simp only [decide_eq_true_eq, decide_eq_false_iff_not, Bool.or_eq_true, Bool.and_eq_true, Bool.or_eq_false_iff, Bool.and_eq_false_imp, Bool.not_eq_true', Bool.not_eq_false', beq_iff_eq, beq_eq_false_iff_ne, bne_iff_ne, bne_eq_false_iff_eq, ne_eq] at hc
  · simp (config := { maxSteps := 2000000 }) (implicitDefEqProofs := false) (disch := first | omega | assumption | (simp only []; done) | fail) only [go_sem, Nat.reduceBEq, Int.reduceBEq]
    have hw := wb_v (putL s n i) (byteI n i) (by rw [putL_len]; omega)
    rw [← byteI_eq] at hw
    refine hw.mono ?_
    rintro r h' ⟨rfl, rfl⟩
    simp (config := { maxSteps := 2000000 }) (implicitDefEqProofs := false) (disch := first | omega | assumption | (simp only []; done) | fail) only [go_sem, Nat.reduceBEq, Int.reduceBEq, bld, bufB]
    refine ⟨⟨i + 1, by omega⟩, by show k - (i + 1) < k - i; omega, ?_⟩
    rw [putL_succ]
    refine gc_of (keep := [0, 3]) rfl rfl rfl (by decide) ⟨⟨_, rfl, rfl, rfl, .inr ⟨rfl, rfl⟩⟩, ⟨_, rfl, rfl, rfl, .inl ⟨?_, rfl⟩⟩, trivial⟩ ?_
    · show DV.nums.go _ (cells encU _) = true
      exact cells_nums _ _ _
    · refine ⟨⟨rfl, rfl⟩, ⟨rfl, rfl⟩, ⟨rfl, rfl⟩, ⟨rfl, rfl⟩, trivial⟩
  · simp (config := { maxSteps := 2000000 }) (implicitDefEqProofs := false) (disch := first | omega | assumption | (simp only []; done) | fail) only [go_sem, ↓reduceIte, Nat.reduceLT, Nat.reduceBEq, Int.reduceLT, Int.reduceBEq]
    have hik : i = k := by omega
    subst hik
    refine (str_v (putL s n i) (by rw [putL_len]; omega) (by rw [putL_len]; omega)).mono ?_
    rintro r h' ⟨rfl, rfl⟩
    simp (config := { maxSteps := 2000000 }) (implicitDefEqProofs := false) (disch := first | omega | assumption | (simp only []; done) | fail) only [go_sem]

theorem btsF : bts Try.prog 22 9 = true := by kernel_rfl

set_option maxHeartbeats 1000000 in
theorem rput_v (s : List UInt8) (hs : s.length ≤ 1000000000) (n : Int) (k : Nat) (h1 : 1 ≤ k) (h8 : k ≤ 8) : VCalls Try.prog 59 [.pv (.str s), .int .i64 n, .int .i64 k] [] (Ret (.pv (.str (putL s n k)))) := by
  refine vcalls_drop (fn := Try.f59) Try.func59 rfl (by kernel_rfl) (by simp [Try.f59]) ?_
  simp (config := { maxSteps := 2000000 }) (implicitDefEqProofs := false) (disch := first | omega | assumption | (simp only []; done) | fail) only [go_sem, Nat.reduceAdd, Nat.reduceBEq, Int.reduceAdd, Int.reduceBEq, Try.f59]
  refine vloopW (fun i : {i : Nat // i ≤ k} => ⟨32, 0, [(7, .int .i64 i.1), (2, .int .i64 k), (0, .pv (.str (putL s n i.1))), (1, .int .i64 n)], []⟩) (fun i => k - i.1) ⟨0, by omega⟩ (.inl (by simpa only [putL, List.range_zero, List.map_nil, List.append_nil] using (by refine ⟨rfl, rfl, by simp, ?_, ?_, .inr ⟨?_, ?_⟩⟩ <;> (repeat' apply And.intro) <;> first | rfl | trivial | (intro _; first | rfl | apply cells_refs)))) ?_
  intro i
  obtain ⟨i, hi⟩ := i
  dsimp only
  simp (config := { maxSteps := 2000000 }) (implicitDefEqProofs := false) (disch := first | omega | assumption | (simp only []; done) | fail) only [go_sem, Nat.reduceBEq, Int.reduceBEq]
  refine vbr_split (fun hc => ?_) (fun hc => ?_) <;> simp only [decide_eq_true_eq, decide_eq_false_iff_not, Bool.or_eq_true, Bool.and_eq_true, Bool.or_eq_false_iff, Bool.and_eq_false_imp, Bool.not_eq_true', Bool.not_eq_false', beq_iff_eq, beq_eq_false_iff_ne, bne_iff_ne, bne_eq_false_iff_eq, ne_eq] at hc
  · have hw8 : IntKind.u64.wrap (8 * (i : Int)) = 8 * (i : Int) := by simp [IntKind.wrap, IntKind.signed, IntKind.bits]; omega
    have hl : (putL s n i).length + 1 ≤ 9223372036854775807 := by rw [putL_len]; omega
    simp (config := { maxSteps := 2000000 }) (implicitDefEqProofs := false) (disch := first | omega | assumption | (simp only []; done) | fail) only [go_sem, V.splice, V.mk, ↓reduceIte, Nat.reduceLT, Nat.reduceLeDiff, Nat.reduceBEq, Int.reduceLT, Int.reduceBEq, hw8, conv_bts btsF, vcso_one]
    refine ⟨⟨i + 1, by omega⟩, by show k - (i + 1) < k - i; omega, ?_⟩
    rw [putL_succ]
    refine gc_of (keep := []) rfl rfl rfl (by decide) trivial ?_
    refine ⟨⟨rfl, rfl⟩, ⟨rfl, rfl⟩, ⟨rfl, rfl⟩, ⟨rfl, rfl⟩, trivial⟩
  · simp (config := { maxSteps := 2000000 }) (implicitDefEqProofs := false) (disch := first | omega | assumption | (simp only []; done) | fail) only [go_sem, ↓reduceIte, Nat.reduceLT, Nat.reduceBEq, Int.reduceLT, Int.reduceBEq]
    have hik : i = k := by omega
    rw [hik]
end Go.Proofs.Ytkbahhackcnnbaa

namespace Go.Proofs.Ytkbahhackcnnbaa
open Go.V Go
set_option maxRecDepth 100000
set_option linter.unusedSimpArgs false

def accX (s : List UInt8) (a : Nat) : Nat → Int
  | 0 => 0
  | i + 1 => bits BinOp.or .u64 (accX s a i) (IntKind.u64.wrap (IntKind.u64.wrap (s.getD (a + i) 0).toNat * 2 ^ min (8 * (i : Int)).toNat 64))

theorem str_get (s : List UInt8) (a i : Nat) (h : a + i < s.length) : s[((a : Int) + (i : Int)).toNat]? = some (s.getD (a + i) 0) := by
  have e : ((a : Int) + (i : Int)).toNat = a + i := by omega
  rw [e, List.getD_eq_getElem?_getD, List.getElem?_eq_getElem h]; rfl

theorem get_short (s : List UInt8) (a k : Int) (h : 1 ≤ k ∧ k ≤ 8) (h0 : 0 ≤ a) (hh : ¬ a + k ≤ s.length) : VCalls Try.prog 79 [.pv (.str s), .int .i64 a, .int .i64 k] [] (Ret (.tup [.int .i64 0, .int .i64 5])) := by
  refine vcalls_drop (fn := Try.f79) Try.func79 rfl (by kernel_rfl) (by simp [Try.f79]) ?_
  have h1 : ¬ k < 1 := by omega
  have h2 : ¬ 8 < k := by omega
  have h3 : ¬ a < 0 := by omega
  by_cases h4 : (s.length : Int) < a
  · simp (config := { maxSteps := 2000000 }) (implicitDefEqProofs := false) (disch := first | omega | assumption | (simp only []; done) | fail) only [go_sem, Nat.reduceAdd, Nat.reduceBEq, Int.reduceAdd, Int.reduceBEq, Try.f79, h1, h2, h3, h4]
  · have h5 : (s.length : Int) - a < k := by omega
    simp (config := { maxSteps := 2000000 }) (implicitDefEqProofs := false) (disch := first | omega | assumption | (simp only []; done) | fail) only [go_sem, Nat.reduceAdd, Nat.reduceBEq, Int.reduceAdd, Int.reduceBEq, Try.f79, h1, h2, h3, h4, h5]

theorem rget_short (s : List UInt8) (a k : Int) (h : 1 ≤ k ∧ k ≤ 8) (h0 : 0 ≤ a) (hh : ¬ a + k ≤ s.length) : VCalls Try.prog 80 [.pv (.str s), .int .i64 a, .int .i64 k] [] (Ret (.tup [.int .i64 0, .int .i64 5])) := by
  refine vcalls_drop (fn := Try.f80) Try.func80 rfl (by kernel_rfl) (by simp [Try.f80]) ?_
  have h1 : ¬ k < 1 := by omega
  have h2 : ¬ 8 < k := by omega
  have h3 : ¬ a < 0 := by omega
  by_cases h4 : (s.length : Int) < a
  · simp (config := { maxSteps := 2000000 }) (implicitDefEqProofs := false) (disch := first | omega | assumption | (simp only []; done) | fail) only [go_sem, Nat.reduceAdd, Nat.reduceBEq, Int.reduceAdd, Int.reduceBEq, Try.f80, h1, h2, h3, h4]
  · have h5 : (s.length : Int) - a < k := by omega
    simp (config := { maxSteps := 2000000 }) (implicitDefEqProofs := false) (disch := first | omega | assumption | (simp only []; done) | fail) only [go_sem, Nat.reduceAdd, Nat.reduceBEq, Int.reduceAdd, Int.reduceBEq, Try.f80, h1, h2, h3, h4, h5]

theorem get_v (s : List UInt8) (hs : s.length ≤ 1000000000) (a k : Nat) (h : 1 ≤ k ∧ k ≤ 8) (hh : a + k ≤ s.length) : VCalls Try.prog 79 [.pv (.str s), .int .i64 a, .int .i64 k] [] (Ret (.tup [.int .i64 (IntKind.i64.wrap (accX s a k)), .int .i64 0])) := by
  refine vcalls_drop (fn := Try.f79) Try.func79 rfl (by kernel_rfl) (by simp [Try.f79]) ?_
  have h1 : ¬ (k : Int) < 1 := by omega
  have h2 : ¬ 8 < (k : Int) := by omega
  have h3 : ¬ (a : Int) < 0 := by omega
  have h4 : ¬ (s.length : Int) < a := by omega
  have h5 : ¬ (s.length : Int) - a < k := by omega
  simp (config := { maxSteps := 2000000 }) (implicitDefEqProofs := false) (disch := first | omega | assumption | (simp only []; done) | fail) only [go_sem, Nat.reduceAdd, Nat.reduceBEq, Int.reduceAdd, Int.reduceBEq, Try.f79, h1, h2, h3, h4, h5]
  refine vloop (fun i : {i : Nat // i ≤ k} => ⟨52, 0, [(35, .int .i64 i.1), (34, .int .i64 k), (8, .int .u64 (accX s a i.1)), (0, .pv (.str s)), (1, .int .i64 a)], []⟩) (fun i => k - i.1) ⟨0, by omega⟩ (by refine ⟨rfl, rfl, by simp, ?_, ?_, .inl rfl⟩ <;> (repeat' apply And.intro) <;> first | rfl | trivial) ?_
  intro i
  obtain ⟨i, hi⟩ := i
  dsimp only
  simp (config := { maxSteps := 2000000 }) (implicitDefEqProofs := false) (disch := first | omega | assumption | (simp only []; done) | fail) only [go_sem, Nat.reduceBEq, Int.reduceBEq]
  refine vbr_split (fun hc => ?_) (fun hc => ?_) <;> simp only [decide_eq_true_eq, decide_eq_false_iff_not, Bool.or_eq_true, Bool.and_eq_true, Bool.or_eq_false_iff, Bool.and_eq_false_imp, Bool.not_eq_true', Bool.not_eq_false', beq_iff_eq, beq_eq_false_iff_ne, bne_iff_ne, bne_eq_false_iff_eq, ne_eq] at hc
  · have hg : s[((a : Int) + (i : Int)).toNat]? = some (s.getD (a + i) 0) := str_get s a i (by omega)
    have h0 : 0 ≤ (a : Int) + (i : Int) := by omega
    simp (config := { maxSteps := 2000000 }) (implicitDefEqProofs := false) (disch := first | omega | assumption | (simp only []; done) | fail) only [go_sem, Nat.reduceBEq, Int.reduceBEq, hg]
    exact ⟨⟨i + 1, by omega⟩, by show k - (i + 1) < k - i; omega, (by refine ⟨rfl, rfl, by simp, ?_, ?_, .inl rfl⟩ <;> (repeat' apply And.intro) <;> first | rfl | trivial)⟩
  · simp (config := { maxSteps := 2000000 }) (implicitDefEqProofs := false) (disch := first | omega | assumption | (simp only []; done) | fail) only [go_sem, ↓reduceIte, Nat.reduceLT, Nat.reduceBEq, Int.reduceLT, Int.reduceBEq]
    have hik : i = k := by omega
    rw [hik]

theorem rget_v (s : List UInt8) (hs : s.length ≤ 1000000000) (a k : Nat) (h : 1 ≤ k ∧ k ≤ 8) (hh : a + k ≤ s.length) : VCalls Try.prog 80 [.pv (.str s), .int .i64 a, .int .i64 k] [] (Ret (.tup [.int .i64 (IntKind.i64.wrap (accX s a k)), .int .i64 0])) := by
  refine vcalls_drop (fn := Try.f80) Try.func80 rfl (by kernel_rfl) (by simp [Try.f80]) ?_
  have h1 : ¬ (k : Int) < 1 := by omega
  have h2 : ¬ 8 < (k : Int) := by omega
  have h3 : ¬ (a : Int) < 0 := by omega
  have h4 : ¬ (s.length : Int) < a := by omega
  have h5 : ¬ (s.length : Int) - a < k := by omega
  simp (config := { maxSteps := 2000000 }) (implicitDefEqProofs := false) (disch := first | omega | assumption | (simp only []; done) | fail) only [go_sem, Nat.reduceAdd, Nat.reduceBEq, Int.reduceAdd, Int.reduceBEq, Try.f80, h1, h2, h3, h4, h5]
  refine vloop (fun i : {i : Nat // i ≤ k} => ⟨51, 0, [(9, .int .i64 i.1), (2, .int .i64 k), (8, .int .u64 (accX s a i.1)), (0, .pv (.str s)), (1, .int .i64 a)], []⟩) (fun i => k - i.1) ⟨0, by omega⟩ (by refine ⟨rfl, rfl, by simp, ?_, ?_, .inl rfl⟩ <;> (repeat' apply And.intro) <;> first | rfl | trivial) ?_
  intro i
  obtain ⟨i, hi⟩ := i
  dsimp only
  simp (config := { maxSteps := 2000000 }) (implicitDefEqProofs := false) (disch := first | omega | assumption | (simp only []; done) | fail) only [go_sem, Nat.reduceBEq, Int.reduceBEq]
  refine vbr_split (fun hc => ?_) (fun hc => ?_) <;> simp only [decide_eq_true_eq, decide_eq_false_iff_not, Bool.or_eq_true, Bool.and_eq_true, Bool.or_eq_false_iff, Bool.and_eq_false_imp, Bool.not_eq_true', Bool.not_eq_false', beq_iff_eq, beq_eq_false_iff_ne, bne_iff_ne, bne_eq_false_iff_eq, ne_eq] at hc
  · have hg : s[((a : Int) + (i : Int)).toNat]? = some (s.getD (a + i) 0) := str_get s a i (by omega)
    have h0 : 0 ≤ (a : Int) + (i : Int) := by omega
    have hw8 : IntKind.u64.wrap (8 * (i : Int)) = 8 * (i : Int) := by simp [IntKind.wrap, IntKind.signed, IntKind.bits]; omega
    simp (config := { maxSteps := 2000000 }) (implicitDefEqProofs := false) (disch := first | omega | assumption | (simp only []; done) | fail) only [go_sem, Nat.reduceBEq, Int.reduceBEq, hg, hw8]
    exact ⟨⟨i + 1, by omega⟩, by show k - (i + 1) < k - i; omega, (by refine ⟨rfl, rfl, by simp, ?_, ?_, .inl rfl⟩ <;> (repeat' apply And.intro) <;> first | rfl | trivial)⟩
  · simp (config := { maxSteps := 2000000 }) (implicitDefEqProofs := false) (disch := first | omega | assumption | (simp only []; done) | fail) only [go_sem, ↓reduceIte, Nat.reduceLT, Nat.reduceBEq, Int.reduceLT, Int.reduceBEq]
    have hik : i = k := by omega
    rw [hik]
end Go.Proofs.Ytkbahhackcnnbaa

namespace Go.Proofs.Ytkbahhackcnnbaa
open Go.V Go
set_option linter.unusedSimpArgs false

def u64N (n : Int) : Nat := (n % 18446744073709551616).toNat
theorem u64N_lt (n : Int) : u64N n < 2 ^ 64 := by unfold u64N; omega
theorem wrap64 (n : Int) : IntKind.u64.wrap n = (u64N n : Int) := by
  unfold u64N
  simp [IntKind.wrap, IntKind.signed, IntKind.bits]; omega
theorem min_bits (i : Nat) (h : i < 8) : min (8 * (i : Int)).toNat 64 = 8 * i := by
  have e : (8 * (i : Int)).toNat = 8 * i := by omega
  rw [e]; omega
theorem byteI_val (n : Int) (i : Nat) (h : i < 8) : (byteI n i).toNat = u64N n / 2 ^ (8 * i) % 256 := by
  have hx := byteI_eq n i
  unfold byteX at hx
  rw [wrap_u8_eq, wrap64, min_bits i h] at hx
  have e : ((u64N n : Int).fdiv (2 ^ (8 * i))) = ((u64N n / 2 ^ (8 * i) : Nat) : Int) := by
    have e2 : ((2 : Int) ^ (8 * i)) = ((2 ^ (8 * i) : Nat) : Int) := by rw [Int.natCast_pow]; rfl
    rw [e2, Int.fdiv_eq_ediv_of_nonneg _ (Int.natCast_nonneg _)]
    rfl
  rw [e] at hx
  generalize u64N n / 2 ^ (8 * i) = q at hx ⊢
  omega
theorem or_val (x y : Nat) (hx : x < 2 ^ 64) (hy : y < 2 ^ 64) : bits .or .u64 (x : Int) (y : Int) = ((x ||| y : Nat) : Int) := by
  have e : bits .or .u64 (x : Int) (y : Int) = IntKind.u64.wrap ((BitVec.ofInt 64 (x : Int) ||| BitVec.ofInt 64 (y : Int)).toNat : Int) := rfl
  rw [e, BitVec.toNat_or]
  have h1 : (BitVec.ofInt 64 (x : Int)).toNat = x := by simp; omega
  have h2 : (BitVec.ofInt 64 (y : Int)).toNat = y := by simp; omega
  rw [h1, h2, wrap64]
  have h3 : x ||| y < 2 ^ 64 := Nat.or_lt_two_pow hx hy
  unfold u64N; omega
theorem step_val (N i : Nat) : (N % 2 ^ (8 * i)) ||| (N / 2 ^ (8 * i) % 256 * 2 ^ (8 * i)) = N % 2 ^ (8 * (i + 1)) := by
  have h : N % 2 ^ (8 * i) < 2 ^ (8 * i) := Nat.mod_lt _ (Nat.two_pow_pos _)
  rw [Nat.or_comm, Nat.mul_comm, ← Nat.two_pow_add_eq_or_of_lt h]
  have e : 2 ^ (8 * (i + 1)) = 2 ^ (8 * i) * 256 := by rw [Nat.mul_add, Nat.pow_add]
  rw [e, Nat.mod_mul]; omega

theorem putL_get (s t : List UInt8) (n : Int) (k i : Nat) (hi : i < k) : (putL s n k ++ t).getD (s.length + i) 0 = byteI n i := by
  rw [List.getD_eq_getElem?_getD, putL, List.append_assoc, List.getElem?_append_right (by omega), List.getElem?_append_left (by simp; omega)]
  simp [hi]

theorem acc_val (s t : List UInt8) (n : Int) (k : Nat) (hk : k ≤ 8) : ∀ i, i ≤ k → accX (putL s n k ++ t) s.length i = ((u64N n % 2 ^ (8 * i) : Nat) : Int)
  | 0, _ => by simp [accX, Nat.mod_one]
  | i + 1, hi => by
    have ih := acc_val s t n k hk i (by omega)
    have h8 : i < 8 := by omega
    unfold accX
    rw [ih, putL_get s t n k i (by omega), byteI_val n i h8, min_bits i h8]
    have hb : u64N n / 2 ^ (8 * i) % 256 < 256 := Nat.mod_lt _ (by omega)
    have hw : IntKind.u64.wrap ((u64N n / 2 ^ (8 * i) % 256 : Nat) : Int) = ((u64N n / 2 ^ (8 * i) % 256 : Nat) : Int) := by rw [wrap64]; unfold u64N at *; omega
    rw [hw]
    have hp : (2 : Nat) ^ (8 * i) ≤ 2 ^ 56 := Nat.pow_le_pow_right (by omega) (by omega)
    have hlt : u64N n / 2 ^ (8 * i) % 256 * 2 ^ (8 * i) < 2 ^ 64 := by
      have : u64N n / 2 ^ (8 * i) % 256 * 2 ^ (8 * i) ≤ 255 * 2 ^ 56 := Nat.mul_le_mul (by omega) hp
      omega
    have e2 : ((u64N n / 2 ^ (8 * i) % 256 : Nat) : Int) * 2 ^ (8 * i) = ((u64N n / 2 ^ (8 * i) % 256 * 2 ^ (8 * i) : Nat) : Int) := by
      rw [Int.natCast_mul, Int.natCast_pow]; rfl
    rw [e2]
    have hw2 : IntKind.u64.wrap ((u64N n / 2 ^ (8 * i) % 256 * 2 ^ (8 * i) : Nat) : Int) = ((u64N n / 2 ^ (8 * i) % 256 * 2 ^ (8 * i) : Nat) : Int) := by
      generalize u64N n / 2 ^ (8 * i) % 256 * 2 ^ (8 * i) = z at hlt
      rw [wrap64]; unfold u64N; omega
    rw [hw2, or_val _ _ (Nat.lt_of_le_of_lt (Nat.mod_le _ _) (u64N_lt n)) hlt, step_val]

theorem wrap_back (n : Int) (h : -9223372036854775808 ≤ n ∧ n ≤ 9223372036854775807) : IntKind.i64.wrap ((u64N n % 2 ^ 64 : Nat) : Int) = n := by
  rw [IntKind.wrap_i64]; unfold u64N; omega
theorem wrap_small (n : Int) (m : Nat) (hm : m ≤ 56) : IntKind.i64.wrap ((u64N n % 2 ^ m : Nat) : Int) = ((u64N n % 2 ^ m : Nat) : Int) := by
  have hp : (2 : Nat) ^ m ≤ 2 ^ 56 := Nat.pow_le_pow_right (by omega) hm
  have h3 : u64N n % 2 ^ m < 2 ^ m := Nat.mod_lt _ (Nat.two_pow_pos m)
  rw [IntKind.wrap_i64]
  generalize u64N n % 2 ^ m = q at *
  omega
end Go.Proofs.Ytkbahhackcnnbaa

namespace Go.Proofs.Ytkbahhackcnnbaa
open Go.V Go
set_option maxRecDepth 100000
set_option linter.unusedSimpArgs false

/-- Numbers put one behind the other, 8 bytes each. -/
def putN (s : List UInt8) (l : List Int) : List UInt8 := l.foldl (fun s n => putL s n 8) s
theorem putN_len (s : List UInt8) : ∀ (l : List Int), ∀ s, (putN s l).length = s.length + 8 * l.length
  | [], s => by simp [putN]
  | a :: r, s => by
    show (putN (putL s a 8) r).length = _
    rw [putN_len s r, putL_len, List.length_cons]; omega
theorem putN_succ (s : List UInt8) (l : List Int) (i : Nat) (h : i < l.length) : putN s (l.take (i + 1)) = putL (putN s (l.take i)) (l.getD i 0) 8 := by
  rw [List.take_succ_eq_append_getElem h, putN, List.foldl_append, getD_eq l i h]; rfl
theorem tput_v (s : List UInt8) (l : List Int) (k : Nat) (h1 : 1 ≤ k) (h8 : k ≤ 8) (hb : s.length + 8 * l.length ≤ 900000000) : VCalls Try.prog 58 [.pv (.str s), .pv (.sl (fz encI l)), .int .i64 k] [] (Ret (.pv (.str (putN (putL s l.length k) l)))) := by
  refine vcalls_drop (fn := Try.f58) Try.func58 rfl (by kernel_rfl) (by simp [Try.f58]) ?_
  have p1 := put_v s (by omega) l.length k h1 h8
  simp (config := { maxSteps := 2000000 }) (implicitDefEqProofs := false) (disch := first | omega | assumption | (simp only []; done) | fail) only [go_sem, Nat.reduceAdd, Nat.reduceBEq, Int.reduceAdd, Int.reduceBEq, Try.f58]
  skip
  repeat' (first
    | (refine vrunG_split (fun hZ => ?_) (fun hZ => ?_) <;> (try rw [hZ]) <;> (try simp only [decide_eq_true_eq, decide_eq_false_iff_not, Bool.or_eq_true, Bool.and_eq_true, Bool.or_eq_false_iff, Bool.and_eq_false_imp, Bool.not_eq_true', Bool.not_eq_false', beq_iff_eq, beq_eq_false_iff_ne, bne_iff_ne, bne_eq_false_iff_eq, ne_eq, Bool.not_eq_eq_eq_not, Bool.not_true, Bool.not_false] at hZ) <;> (try (first | rw [(hZ : _ = false)] | rw [(hZ : _ = true)])) <;> skip)
    | (refine vbr_split (fun hZ => ?_) (fun hZ => ?_) <;> (try rw [hZ]) <;> (try simp only [decide_eq_true_eq, decide_eq_false_iff_not, Bool.or_eq_true, Bool.and_eq_true, Bool.or_eq_false_iff, Bool.and_eq_false_imp, Bool.not_eq_true', Bool.not_eq_false', beq_iff_eq, beq_eq_false_iff_ne, bne_iff_ne, bne_eq_false_iff_eq, ne_eq, Bool.not_eq_eq_eq_not, Bool.not_true, Bool.not_false] at hZ) <;> (try (first | rw [(hZ : _ = false)] | rw [(hZ : _ = true)])) <;> skip)
    | (refine vdrG_split (fun hZ => ?_) (fun hZ => ?_) <;> (try rw [hZ]) <;> (try simp only [decide_eq_true_eq, decide_eq_false_iff_not, Bool.or_eq_true, Bool.and_eq_true, Bool.or_eq_false_iff, Bool.and_eq_false_imp, Bool.not_eq_true', Bool.not_eq_false', beq_iff_eq, beq_eq_false_iff_ne, bne_iff_ne, bne_eq_false_iff_eq, ne_eq, Bool.not_eq_eq_eq_not, Bool.not_true, Bool.not_false] at hZ) <;> (try (first | rw [(hZ : _ = false)] | rw [(hZ : _ = true)])) <;> skip)
    | (refine vc_pure (p1) rfl ?_; (try simp (config := { maxSteps := 2000000 }) (implicitDefEqProofs := false) (disch := first | omega | assumption | (simp only []; done) | fail) only [go_sem, Nat.reduceBEq, Int.reduceBEq]))
    )
  refine vloopW (fun t : To l.length => ⟨25, 0, [(16, .int .i64 t.i), (15, .int .i64 l.length), (14, .pv (.sl (fz encI l))), (0, .pv (.str (putN (putL s l.length k) (l.take t.i))))], []⟩) (fun t => l.length - t.i) ⟨0, Nat.zero_le _⟩ (by refine gc_of (keep := []) rfl rfl rfl (by decide) ?_ ?_ <;> (repeat' apply And.intro) <;> first | trivial | rfl | exact ⟨_, rfl, rfl, rfl, .inl ⟨rfl, rfl⟩⟩ | exact ⟨_, rfl, rfl, rfl, .inl ⟨cells_nums _ _ _, rfl⟩⟩ | exact ⟨_, rfl, rfl, rfl, .inl ⟨pvs_nums _ _, rfl⟩⟩ | exact ⟨_, rfl, rfl, rfl, .inr ⟨rfl, rfl⟩⟩) ?_
  intro t
  have hi := t.hi
  have hg := fun h : t.i < l.length => fzI_get l t.i h
  have hlen := putN_len s (l.take t.i) (putL s l.length k)
  rw [putL_len, List.length_take] at hlen
  have p2 := put_v (putN (putL s l.length k) (l.take t.i)) (by omega) (l.getD t.i 0) 8 (by omega) (by omega)
  have hs := putN_succ (putL s l.length k) l t.i
  (try simp (config := { maxSteps := 2000000 }) (implicitDefEqProofs := false) (disch := first | omega | assumption | (simp only []; done) | fail) only [go_sem, Nat.reduceBEq, Int.reduceBEq])
  repeat' (first
    | (refine vrunG_split (fun hZ => ?_) (fun hZ => ?_) <;> (try rw [hZ]) <;> (try simp only [decide_eq_true_eq, decide_eq_false_iff_not, Bool.or_eq_true, Bool.and_eq_true, Bool.or_eq_false_iff, Bool.and_eq_false_imp, Bool.not_eq_true', Bool.not_eq_false', beq_iff_eq, beq_eq_false_iff_ne, bne_iff_ne, bne_eq_false_iff_eq, ne_eq, Bool.not_eq_eq_eq_not, Bool.not_true, Bool.not_false] at hZ) <;> (try (first | rw [(hZ : _ = false)] | rw [(hZ : _ = true)])) <;> skip)
    | (refine vbr_split (fun hZ => ?_) (fun hZ => ?_) <;> (try rw [hZ]) <;> (try simp only [decide_eq_true_eq, decide_eq_false_iff_not, Bool.or_eq_true, Bool.and_eq_true, Bool.or_eq_false_iff, Bool.and_eq_false_imp, Bool.not_eq_true', Bool.not_eq_false', beq_iff_eq, beq_eq_false_iff_ne, bne_iff_ne, bne_eq_false_iff_eq, ne_eq, Bool.not_eq_eq_eq_not, Bool.not_true, Bool.not_false] at hZ) <;> (try (first | rw [(hZ : _ = false)] | rw [(hZ : _ = true)])) <;> (try simp (config := { maxSteps := 2000000 }) (implicitDefEqProofs := false) (disch := first | omega | assumption | (simp only [List.length_cons, List.length_nil, Nat.zero_add]; done) | fail) only [go_sem, ↓reduceIte, Nat.reduceLT, Nat.reduceBEq, Int.reduceLT, Int.reduceBEq, hg]))
    | (refine vdrG_split (fun hZ => ?_) (fun hZ => ?_) <;> (try rw [hZ]) <;> (try simp only [decide_eq_true_eq, decide_eq_false_iff_not, Bool.or_eq_true, Bool.and_eq_true, Bool.or_eq_false_iff, Bool.and_eq_false_imp, Bool.not_eq_true', Bool.not_eq_false', beq_iff_eq, beq_eq_false_iff_ne, bne_iff_ne, bne_eq_false_iff_eq, ne_eq, Bool.not_eq_eq_eq_not, Bool.not_true, Bool.not_false] at hZ) <;> (try (first | rw [(hZ : _ = false)] | rw [(hZ : _ = true)])) <;> skip)
    | (refine vc_pure (p2) rfl ?_; (try simp (config := { maxSteps := 2000000 }) (implicitDefEqProofs := false) (disch := first | omega | assumption | (simp only []; done) | fail) only [go_sem, Nat.reduceBEq, Int.reduceBEq]))
    )
  · refine ⟨⟨t.i + 1, by omega⟩, by show l.length - (t.i + 1) < l.length - t.i; omega, ?_⟩
    dsimp only
    rw [hs (by omega)]
    exact (by refine gc_of (keep := []) rfl rfl rfl (by decide) ?_ ?_ <;> (repeat' apply And.intro) <;> first | trivial | rfl | exact ⟨_, rfl, rfl, rfl, .inl ⟨rfl, rfl⟩⟩ | exact ⟨_, rfl, rfl, rfl, .inl ⟨cells_nums _ _ _, rfl⟩⟩ | exact ⟨_, rfl, rfl, rfl, .inl ⟨pvs_nums _ _, rfl⟩⟩ | exact ⟨_, rfl, rfl, rfl, .inr ⟨rfl, rfl⟩⟩)
  · rw [List.take_of_length_le (by omega)]
theorem rnum_v (s : List UInt8) (l : List Int) (hb : s.length + 8 * l.length ≤ 900000000) : VCalls Try.prog 60 [.pv (.str s), .pv (.sl (fz encI l))] [] (Ret (.pv (.str (putN s l)))) := by
  refine vcalls_drop (fn := Try.f60) Try.func60 rfl (by kernel_rfl) (by simp [Try.f60]) ?_
  simp (config := { maxSteps := 2000000 }) (implicitDefEqProofs := false) (disch := first | omega | assumption | (simp only []; done) | fail) only [go_sem, Nat.reduceAdd, Int.reduceAdd, Try.f60]
  refine vloopW (fun t : To l.length => ⟨19, 0, [(5, .int .i64 t.i), (1, .pv (.sl (fz encI l))), (0, .pv (.str (putN s (l.take t.i))))], []⟩) (fun t => l.length - t.i) ⟨0, Nat.zero_le _⟩ (by refine gc_of (keep := []) rfl rfl rfl (by decide) ?_ ?_ <;> (repeat' apply And.intro) <;> first | trivial | rfl | exact ⟨_, rfl, rfl, rfl, .inl ⟨rfl, rfl⟩⟩ | exact ⟨_, rfl, rfl, rfl, .inl ⟨cells_nums _ _ _, rfl⟩⟩ | exact ⟨_, rfl, rfl, rfl, .inl ⟨pvs_nums _ _, rfl⟩⟩ | exact ⟨_, rfl, rfl, rfl, .inr ⟨rfl, rfl⟩⟩) ?_
  intro t
  have hi := t.hi
  have hg := fun h : t.i < l.length => fzI_get l t.i h
  have hlen := putN_len s (l.take t.i) s
  rw [List.length_take] at hlen
  have p2 := rput_v (putN s (l.take t.i)) (by omega) (l.getD t.i 0) 8 (by omega) (by omega)
  have hs := putN_succ s l t.i
  (try simp (config := { maxSteps := 2000000 }) (implicitDefEqProofs := false) (disch := first | omega | assumption | (simp only []; done) | fail) only [go_sem, Nat.reduceBEq, Int.reduceBEq])
  repeat' (first
    | (refine vrunG_split (fun hZ => ?_) (fun hZ => ?_) <;> (try rw [hZ]) <;> (try simp only [decide_eq_true_eq, decide_eq_false_iff_not, Bool.or_eq_true, Bool.and_eq_true, Bool.or_eq_false_iff, Bool.and_eq_false_imp, Bool.not_eq_true', Bool.not_eq_false', beq_iff_eq, beq_eq_false_iff_ne, bne_iff_ne, bne_eq_false_iff_eq, ne_eq, Bool.not_eq_eq_eq_not, Bool.not_true, Bool.not_false] at hZ) <;> (try (first | rw [(hZ : _ = false)] | rw [(hZ : _ = true)])) <;> skip)
    | (refine vbr_split (fun hZ => ?_) (fun hZ => ?_) <;> (try rw [hZ]) <;> (try simp only [decide_eq_true_eq, decide_eq_false_iff_not, Bool.or_eq_true, Bool.and_eq_true, Bool.or_eq_false_iff, Bool.and_eq_false_imp, Bool.not_eq_true', Bool.not_eq_false', beq_iff_eq, beq_eq_false_iff_ne, bne_iff_ne, bne_eq_false_iff_eq, ne_eq, Bool.not_eq_eq_eq_not, Bool.not_true, Bool.not_false] at hZ) <;> (try (first | rw [(hZ : _ = false)] | rw [(hZ : _ = true)])) <;> (try simp (config := { maxSteps := 2000000 }) (implicitDefEqProofs := false) (disch := first | omega | assumption | (simp only [List.length_cons, List.length_nil, Nat.zero_add]; done) | fail) only [go_sem, ↓reduceIte, Nat.reduceLT, Nat.reduceBEq, Int.reduceLT, Int.reduceBEq, hg]))
    | (refine vdrG_split (fun hZ => ?_) (fun hZ => ?_) <;> (try rw [hZ]) <;> (try simp only [decide_eq_true_eq, decide_eq_false_iff_not, Bool.or_eq_true, Bool.and_eq_true, Bool.or_eq_false_iff, Bool.and_eq_false_imp, Bool.not_eq_true', Bool.not_eq_false', beq_iff_eq, beq_eq_false_iff_ne, bne_iff_ne, bne_eq_false_iff_eq, ne_eq, Bool.not_eq_eq_eq_not, Bool.not_true, Bool.not_false] at hZ) <;> (try (first | rw [(hZ : _ = false)] | rw [(hZ : _ = true)])) <;> skip)
    | (refine vc_pure (p2) rfl ?_; (try simp (config := { maxSteps := 2000000 }) (implicitDefEqProofs := false) (disch := first | omega | assumption | (simp only []; done) | fail) only [go_sem, Nat.reduceBEq, Int.reduceBEq]))
    )
  · refine ⟨⟨t.i + 1, by omega⟩, by show l.length - (t.i + 1) < l.length - t.i; omega, ?_⟩
    dsimp only
    rw [hs (by omega)]
    exact (by refine gc_of (keep := []) rfl rfl rfl (by decide) ?_ ?_ <;> (repeat' apply And.intro) <;> first | trivial | rfl | exact ⟨_, rfl, rfl, rfl, .inl ⟨rfl, rfl⟩⟩ | exact ⟨_, rfl, rfl, rfl, .inl ⟨cells_nums _ _ _, rfl⟩⟩ | exact ⟨_, rfl, rfl, rfl, .inl ⟨pvs_nums _ _, rfl⟩⟩ | exact ⟨_, rfl, rfl, rfl, .inr ⟨rfl, rfl⟩⟩)
  · rw [List.take_of_length_le (by omega)]
/-- The bytes of a transaction behind others. -/
def encT1 (s : List UInt8) (t : Tx) : List UInt8 := putN (putL (putN (putL (putL (putL (putL (putL s t.id 4) t.st 1) t.n 8) t.b 8) t.l.length 2) t.l) t.s.length 1) t.s
def encTs (s : List UInt8) (l : List Tx) : List UInt8 := l.foldl encT1 s
def encS (l : List Tx) : List UInt8 × Int := if tblB l = false then ([], 15) else (encTs (putL [] l.length 2) l, 0)
theorem encT1_len (s : List UInt8) (t : Tx) : (encT1 s t).length = s.length + 24 + 8 * t.l.length + 8 * t.s.length := by
  unfold encT1
  rw [putN_len s, putL_len, putN_len s, putL_len, putL_len, putL_len, putL_len, putL_len]; omega
theorem encTs_le {m : Nat} : ∀ (l : List Tx) (s : List UInt8), (∀ t ∈ l, t.l.length ≤ 4096 ∧ t.s.length ≤ 8) → (encTs s l).length ≤ s.length + 32856 * l.length
  | [], s, _ => by simp [encTs]
  | t :: r, s, h => by
    have h1 := h t (by simp)
    have h2 := encTs_le (m := m) r (encT1 s t) fun t ht => h t (List.mem_cons_of_mem _ ht)
    show (encTs (encT1 s t) r).length ≤ _
    rw [encT1_len] at h2
    rw [List.length_cons]; omega
theorem encTs_succ (s : List UInt8) (l : List Tx) (i : Nat) (h : i < l.length) : encTs s (l.take (i + 1)) = encT1 (encTs s (l.take i)) l[i] := by
  rw [List.take_succ_eq_append_getElem h, encTs, List.foldl_append]; rfl
def encD (r : List UInt8 × Int) : DV := .tup [.pv (.str r.1), .int .i64 r.2]
set_option maxHeartbeats 2000000 in
theorem encode_v (l : List Tx) (hs : smL l) : VCalls Try.prog 26 [.pv (.sl (fz encT l))] [] (Ret (encD (encS l))) := by
  refine vcalls_drop (fn := Try.f26) Try.func26 rfl (by kernel_rfl) (by simp [Try.f26]) ?_
  have c1 := tvalid_v l hs
  unfold encS
  by_cases hv : tblB l = true
  rotate_left
  · have hv' : tblB l = false := by simpa using hv
    rw [if_pos hv']
    simp (config := { maxSteps := 2000000 }) (implicitDefEqProofs := false) (disch := first | omega | assumption | (simp only []; done) | fail) only [go_sem, Nat.reduceBEq, Int.reduceBEq, Try.f26]
    skip
    repeat' (first
      | (refine vrunG_split (fun hZ => ?_) (fun hZ => ?_) <;> (try rw [hZ]) <;> (try simp only [decide_eq_true_eq, decide_eq_false_iff_not, Bool.or_eq_true, Bool.and_eq_true, Bool.or_eq_false_iff, Bool.and_eq_false_imp, Bool.not_eq_true', Bool.not_eq_false', beq_iff_eq, beq_eq_false_iff_ne, bne_iff_ne, bne_eq_false_iff_eq, ne_eq, Bool.not_eq_eq_eq_not, Bool.not_true, Bool.not_false] at hZ) <;> (try (first | rw [(hZ : _ = false)] | rw [(hZ : _ = true)])) <;> skip)
      | (refine vbr_split (fun hZ => ?_) (fun hZ => ?_) <;> (try rw [hZ]) <;> (try simp only [decide_eq_true_eq, decide_eq_false_iff_not, Bool.or_eq_true, Bool.and_eq_true, Bool.or_eq_false_iff, Bool.and_eq_false_imp, Bool.not_eq_true', Bool.not_eq_false', beq_iff_eq, beq_eq_false_iff_ne, bne_iff_ne, bne_eq_false_iff_eq, ne_eq, Bool.not_eq_eq_eq_not, Bool.not_true, Bool.not_false] at hZ) <;> (try (first | rw [(hZ : _ = false)] | rw [(hZ : _ = true)])) <;> (try simp (config := { maxSteps := 2000000 }) (implicitDefEqProofs := false) (disch := first | omega | assumption | (simp only []; done) | fail) only [go_sem, Nat.reduceBEq, Int.reduceBEq]))
      | (refine vdrG_split (fun hZ => ?_) (fun hZ => ?_) <;> (try rw [hZ]) <;> (try simp only [decide_eq_true_eq, decide_eq_false_iff_not, Bool.or_eq_true, Bool.and_eq_true, Bool.or_eq_false_iff, Bool.and_eq_false_imp, Bool.not_eq_true', Bool.not_eq_false', beq_iff_eq, beq_eq_false_iff_ne, bne_iff_ne, bne_eq_false_iff_eq, ne_eq, Bool.not_eq_eq_eq_not, Bool.not_true, Bool.not_false] at hZ) <;> (try (first | rw [(hZ : _ = false)] | rw [(hZ : _ = true)])) <;> skip)
      | (refine vc_pure (c1) rfl ?_; (try simp (config := { maxSteps := 2000000 }) (implicitDefEqProofs := false) (disch := first | omega | assumption | (simp only []; done) | fail) only [go_sem]))
      )
    all_goals first | rfl | contradiction
  rw [if_neg (by rw [hv]; decide)]
  have hle := tblB_len hv
  have hsm : ∀ t ∈ l, t.l.length ≤ 4096 ∧ t.s.length ≤ 8 := fun t ht => by
    obtain ⟨i, hi, rfl⟩ := List.getElem_of_mem ht
    exact okB_len (tblB_at hv hi)
  rw [hv] at c1
  have p1 := put_v [] (by simp) l.length 2 (by omega) (by omega)
  simp (config := { maxSteps := 2000000 }) (implicitDefEqProofs := false) (disch := first | omega | assumption | (simp only []; done) | fail) only [go_sem, Nat.reduceBEq, Int.reduceBEq, Try.f26]
  skip
  repeat' (first
    | (refine vrunG_split (fun hZ => ?_) (fun hZ => ?_) <;> (try rw [hZ]) <;> (try simp only [decide_eq_true_eq, decide_eq_false_iff_not, Bool.or_eq_true, Bool.and_eq_true, Bool.or_eq_false_iff, Bool.and_eq_false_imp, Bool.not_eq_true', Bool.not_eq_false', beq_iff_eq, beq_eq_false_iff_ne, bne_iff_ne, bne_eq_false_iff_eq, ne_eq, Bool.not_eq_eq_eq_not, Bool.not_true, Bool.not_false] at hZ) <;> (try (first | rw [(hZ : _ = false)] | rw [(hZ : _ = true)])) <;> skip)
    | (refine vbr_split (fun hZ => ?_) (fun hZ => ?_) <;> (try rw [hZ]) <;> (try simp only [decide_eq_true_eq, decide_eq_false_iff_not, Bool.or_eq_true, Bool.and_eq_true, Bool.or_eq_false_iff, Bool.and_eq_false_imp, Bool.not_eq_true', Bool.not_eq_false', beq_iff_eq, beq_eq_false_iff_ne, bne_iff_ne, bne_eq_false_iff_eq, ne_eq, Bool.not_eq_eq_eq_not, Bool.not_true, Bool.not_false] at hZ) <;> (try (first | rw [(hZ : _ = false)] | rw [(hZ : _ = true)])) <;> skip)
    | (refine vdrG_split (fun hZ => ?_) (fun hZ => ?_) <;> (try rw [hZ]) <;> (try simp only [decide_eq_true_eq, decide_eq_false_iff_not, Bool.or_eq_true, Bool.and_eq_true, Bool.or_eq_false_iff, Bool.and_eq_false_imp, Bool.not_eq_true', Bool.not_eq_false', beq_iff_eq, beq_eq_false_iff_ne, bne_iff_ne, bne_eq_false_iff_eq, ne_eq, Bool.not_eq_eq_eq_not, Bool.not_true, Bool.not_false] at hZ) <;> (try (first | rw [(hZ : _ = false)] | rw [(hZ : _ = true)])) <;> skip)
    | (refine vc_pure (c1) rfl ?_; (try simp (config := { maxSteps := 2000000 }) (implicitDefEqProofs := false) (disch := first | omega | assumption | (simp only []; done) | fail) only [go_sem, Nat.reduceBEq, Int.reduceBEq]))
    | (refine vc_pure (p1) rfl ?_; (try simp (config := { maxSteps := 2000000 }) (implicitDefEqProofs := false) (disch := first | omega | assumption | (simp only []; done) | fail) only [go_sem, Nat.reduceBEq, Int.reduceBEq]))
    )
  refine vloopW (fun t : To l.length => ⟨42, 0, [(15, .int .i64 t.i), (14, .int .i64 l.length), (13, .pv (.sl (fz encT l))), (4, .pv (.str (encTs (putL [] l.length 2) (l.take t.i))))], []⟩) (fun t => l.length - t.i) ⟨0, Nat.zero_le _⟩ (by refine gc_of (keep := []) rfl rfl rfl (by decide) ?_ ?_ <;> (repeat' apply And.intro) <;> first | trivial | rfl | exact ⟨_, rfl, rfl, rfl, .inl ⟨rfl, rfl⟩⟩ | exact ⟨_, rfl, rfl, rfl, .inl ⟨cells_nums _ _ _, rfl⟩⟩ | exact ⟨_, rfl, rfl, rfl, .inl ⟨pvs_nums _ _, rfl⟩⟩ | exact ⟨_, rfl, rfl, rfl, .inr ⟨rfl, rfl⟩⟩) ?_
  intro t
  have hi := t.hi
  have hg := fun h : t.i < l.length => fzT_at l t.i h
  have hlen := encTs_le (m := 0) (l.take t.i) (putL [] l.length 2) fun t ht => hsm t (List.mem_of_mem_take ht)
  rw [putL_len, List.length_take] at hlen
  have hsc := encTs_succ (putL [] l.length 2) l t.i
  by_cases hc : t.i < l.length
  · replace hg := hg hc
    replace hsc := hsc hc
    obtain ⟨hq1, hq2⟩ := hsm l[t.i] (List.getElem_mem hc)
    generalize encTs (putL [] l.length 2) (l.take t.i) = s at *
    generalize l[t.i] = x at *
    obtain ⟨id, st, n, b, q, sv⟩ := x
    dsimp only at hg hq1 hq2
    unfold encT1 at hsc
    dsimp only at hsc
    have z0 : s.length ≤ 3000000 := by simp at hlen; omega
    have p2 := put_v s (by omega) id 4 (by omega) (by omega)
    have p3 := put_v (putL s id 4) (by rw [putL_len]; omega) st 1 (by omega) (by omega)
    have p4 := put_v (putL (putL s id 4) st 1) (by rw [putL_len, putL_len]; omega) n 8 (by omega) (by omega)
    have p5 := put_v (putL (putL (putL s id 4) st 1) n 8) (by rw [putL_len, putL_len, putL_len]; omega) b 8 (by omega) (by omega)
    have p6 := tput_v (putL (putL (putL (putL s id 4) st 1) n 8) b 8) q 2 (by omega) (by omega) (by rw [putL_len, putL_len, putL_len, putL_len]; omega)
    have p7 := tput_v (putN (putL (putL (putL (putL (putL s id 4) st 1) n 8) b 8) q.length 2) q) sv 1 (by omega) (by omega) (by rw [putN_len s, putL_len, putL_len, putL_len, putL_len, putL_len]; omega)
    (try simp (config := { maxSteps := 2000000 }) (implicitDefEqProofs := false) (disch := first | omega | assumption | (simp only [List.length_cons, List.length_nil, Nat.zero_add, Nat.reduceAdd]; done) | fail) only [go_sem, V.splice, ↓reduceIte, Nat.reduceAdd, Nat.reduceBEq, Int.reduceAdd, Int.reduceBEq, hg])
    repeat' (first
      | (refine vrunG_split (fun hZ => ?_) (fun hZ => ?_) <;> (try rw [hZ]) <;> (try simp only [decide_eq_true_eq, decide_eq_false_iff_not, Bool.or_eq_true, Bool.and_eq_true, Bool.or_eq_false_iff, Bool.and_eq_false_imp, Bool.not_eq_true', Bool.not_eq_false', beq_iff_eq, beq_eq_false_iff_ne, bne_iff_ne, bne_eq_false_iff_eq, ne_eq, Bool.not_eq_eq_eq_not, Bool.not_true, Bool.not_false] at hZ) <;> (try (first | rw [(hZ : _ = false)] | rw [(hZ : _ = true)])) <;> skip)
      | (refine vbr_split (fun hZ => ?_) (fun hZ => ?_) <;> (try rw [hZ]) <;> (try simp only [decide_eq_true_eq, decide_eq_false_iff_not, Bool.or_eq_true, Bool.and_eq_true, Bool.or_eq_false_iff, Bool.and_eq_false_imp, Bool.not_eq_true', Bool.not_eq_false', beq_iff_eq, beq_eq_false_iff_ne, bne_iff_ne, bne_eq_false_iff_eq, ne_eq, Bool.not_eq_eq_eq_not, Bool.not_true, Bool.not_false] at hZ) <;> (try (first | rw [(hZ : _ = false)] | rw [(hZ : _ = true)])) <;> skip)
      | (refine vdrG_split (fun hZ => ?_) (fun hZ => ?_) <;> (try rw [hZ]) <;> (try simp only [decide_eq_true_eq, decide_eq_false_iff_not, Bool.or_eq_true, Bool.and_eq_true, Bool.or_eq_false_iff, Bool.and_eq_false_imp, Bool.not_eq_true', Bool.not_eq_false', beq_iff_eq, beq_eq_false_iff_ne, bne_iff_ne, bne_eq_false_iff_eq, ne_eq, Bool.not_eq_eq_eq_not, Bool.not_true, Bool.not_false] at hZ) <;> (try (first | rw [(hZ : _ = false)] | rw [(hZ : _ = true)])) <;> skip)
      | (refine vc_pure (p2) rfl ?_; (try simp (config := { maxSteps := 2000000 }) (implicitDefEqProofs := false) (disch := first | omega | assumption | (simp only []; done) | fail) only [go_sem, Nat.reduceBEq, Int.reduceBEq]))
      | (refine vc_pure (p3) rfl ?_; (try simp (config := { maxSteps := 2000000 }) (implicitDefEqProofs := false) (disch := first | omega | assumption | (simp only []; done) | fail) only [go_sem, Nat.reduceBEq, Int.reduceBEq]))
      | (refine vc_pure (p4) rfl ?_; (try simp (config := { maxSteps := 2000000 }) (implicitDefEqProofs := false) (disch := first | omega | assumption | (simp only []; done) | fail) only [go_sem, Nat.reduceBEq, Int.reduceBEq]))
      | (refine vc_pure (p5) rfl ?_; (try simp (config := { maxSteps := 2000000 }) (implicitDefEqProofs := false) (disch := first | omega | assumption | (simp only []; done) | fail) only [go_sem, Nat.reduceBEq, Int.reduceBEq]))
      | (refine vc_pure (p6) rfl ?_; (try simp (config := { maxSteps := 2000000 }) (implicitDefEqProofs := false) (disch := first | omega | assumption | (simp only []; done) | fail) only [go_sem, Nat.reduceBEq, Int.reduceBEq]))
      | (refine vc_pure (p7) rfl ?_; (try simp (config := { maxSteps := 2000000 }) (implicitDefEqProofs := false) (disch := first | omega | assumption | (simp only []; done) | fail) only [go_sem, Nat.reduceBEq, Int.reduceBEq]))
      | (refine vspine (id := 7) [0, 1, 2, 4, 5] [⟨[], [], 3, [1, 4, 5], []⟩, ⟨[], [], 6, [0, 1, 2, 4], []⟩, ⟨[], [], 7, [], []⟩] (by kernel_rfl) (by kernel_rfl) ?_; (try simp (config := { maxSteps := 2000000 }) (implicitDefEqProofs := false) (disch := first | omega | assumption | (simp only []; done) | fail) only [go_sem, ↓reduceIte, reduceCtorEq, Nat.reduceBEq, Int.reduceBEq]))
      | (refine vspine (id := 8) [0, 1, 2, 4, 5] [⟨[], [], 3, [1, 4, 5], []⟩, ⟨[], [], 6, [0, 1, 2, 4], []⟩, ⟨[], [], 7, [], []⟩] (by kernel_rfl) (by kernel_rfl) ?_; (try simp (config := { maxSteps := 2000000 }) (implicitDefEqProofs := false) (disch := first | omega | assumption | (simp only []; done) | fail) only [go_sem, ↓reduceIte, reduceCtorEq, Nat.reduceBEq, Int.reduceBEq]))
      | (refine vspine (id := 9) [0, 1, 2, 4, 5] [⟨[], [], 3, [1, 4, 5], []⟩, ⟨[], [], 6, [0, 1, 2, 4], []⟩, ⟨[], [], 7, [], []⟩] (by kernel_rfl) (by kernel_rfl) ?_; (try simp (config := { maxSteps := 2000000 }) (implicitDefEqProofs := false) (disch := first | omega | assumption | (simp only []; done) | fail) only [go_sem, ↓reduceIte, reduceCtorEq, Nat.reduceBEq, Int.reduceBEq]))
      )
    all_goals
      refine ⟨⟨t.i + 1, by omega⟩, by show l.length - (t.i + 1) < l.length - t.i; omega, ?_⟩
      dsimp only
      rw [hsc]
      exact (by refine gc_of (keep := []) rfl rfl rfl (by decide) ?_ ?_ <;> (repeat' apply And.intro) <;> first | trivial | rfl | exact ⟨_, rfl, rfl, rfl, .inl ⟨rfl, rfl⟩⟩ | exact ⟨_, rfl, rfl, rfl, .inl ⟨cells_nums _ _ _, rfl⟩⟩ | exact ⟨_, rfl, rfl, rfl, .inl ⟨pvs_nums _ _, rfl⟩⟩ | exact ⟨_, rfl, rfl, rfl, .inr ⟨rfl, rfl⟩⟩)
  · simp (config := { maxSteps := 2000000 }) (implicitDefEqProofs := false) (disch := first | omega | assumption | (simp only []; done) | fail) only [go_sem, ↓reduceIte, Nat.reduceLT, Nat.reduceBEq, Int.reduceLT, Int.reduceBEq]
    skip
    repeat' (first
      | (refine vrunG_split (fun hZ => ?_) (fun hZ => ?_) <;> (try rw [hZ]) <;> (try simp only [decide_eq_true_eq, decide_eq_false_iff_not, Bool.or_eq_true, Bool.and_eq_true, Bool.or_eq_false_iff, Bool.and_eq_false_imp, Bool.not_eq_true', Bool.not_eq_false', beq_iff_eq, beq_eq_false_iff_ne, bne_iff_ne, bne_eq_false_iff_eq, ne_eq, Bool.not_eq_eq_eq_not, Bool.not_true, Bool.not_false] at hZ) <;> (try (first | rw [(hZ : _ = false)] | rw [(hZ : _ = true)])) <;> skip)
      | (refine vbr_split (fun hZ => ?_) (fun hZ => ?_) <;> (try rw [hZ]) <;> (try simp only [decide_eq_true_eq, decide_eq_false_iff_not, Bool.or_eq_true, Bool.and_eq_true, Bool.or_eq_false_iff, Bool.and_eq_false_imp, Bool.not_eq_true', Bool.not_eq_false', beq_iff_eq, beq_eq_false_iff_ne, bne_iff_ne, bne_eq_false_iff_eq, ne_eq, Bool.not_eq_eq_eq_not, Bool.not_true, Bool.not_false] at hZ) <;> (try (first | rw [(hZ : _ = false)] | rw [(hZ : _ = true)])) <;> skip)
      | (refine vdrG_split (fun hZ => ?_) (fun hZ => ?_) <;> (try rw [hZ]) <;> (try simp only [decide_eq_true_eq, decide_eq_false_iff_not, Bool.or_eq_true, Bool.and_eq_true, Bool.or_eq_false_iff, Bool.and_eq_false_imp, Bool.not_eq_true', Bool.not_eq_false', beq_iff_eq, beq_eq_false_iff_ne, bne_iff_ne, bne_eq_false_iff_eq, ne_eq, Bool.not_eq_eq_eq_not, Bool.not_true, Bool.not_false] at hZ) <;> (try (first | rw [(hZ : _ = false)] | rw [(hZ : _ = true)])) <;> skip)
      )
    all_goals (rw [List.take_of_length_le (by omega)]; rfl)
set_option maxHeartbeats 2000000 in
theorem rencode_v (l : List Tx) (hs : smL l) : VCalls Try.prog 27 [.pv (.sl (fz encT l))] [] (Ret (encD (encS l))) := by
  refine vcalls_drop (fn := Try.f27) Try.func27 rfl (by kernel_rfl) (by simp [Try.f27]) ?_
  have c1 := rtvalid_v l hs
  unfold encS
  by_cases hv : tblB l = true
  rotate_left
  · have hv' : tblB l = false := by simpa using hv
    rw [if_pos hv']
    simp (config := { maxSteps := 2000000 }) (implicitDefEqProofs := false) (disch := first | omega | assumption | (simp only []; done) | fail) only [go_sem, Nat.reduceBEq, Int.reduceBEq, Try.f27]
    skip
    repeat' (first
      | (refine vrunG_split (fun hZ => ?_) (fun hZ => ?_) <;> (try rw [hZ]) <;> (try simp only [decide_eq_true_eq, decide_eq_false_iff_not, Bool.or_eq_true, Bool.and_eq_true, Bool.or_eq_false_iff, Bool.and_eq_false_imp, Bool.not_eq_true', Bool.not_eq_false', beq_iff_eq, beq_eq_false_iff_ne, bne_iff_ne, bne_eq_false_iff_eq, ne_eq, Bool.not_eq_eq_eq_not, Bool.not_true, Bool.not_false] at hZ) <;> (try (first | rw [(hZ : _ = false)] | rw [(hZ : _ = true)])) <;> skip)
      | (refine vbr_split (fun hZ => ?_) (fun hZ => ?_) <;> (try rw [hZ]) <;> (try simp only [decide_eq_true_eq, decide_eq_false_iff_not, Bool.or_eq_true, Bool.and_eq_true, Bool.or_eq_false_iff, Bool.and_eq_false_imp, Bool.not_eq_true', Bool.not_eq_false', beq_iff_eq, beq_eq_false_iff_ne, bne_iff_ne, bne_eq_false_iff_eq, ne_eq, Bool.not_eq_eq_eq_not, Bool.not_true, Bool.not_false] at hZ) <;> (try (first | rw [(hZ : _ = false)] | rw [(hZ : _ = true)])) <;> (try simp (config := { maxSteps := 2000000 }) (implicitDefEqProofs := false) (disch := first | omega | assumption | (simp only []; done) | fail) only [go_sem, Nat.reduceBEq, Int.reduceBEq]))
      | (refine vdrG_split (fun hZ => ?_) (fun hZ => ?_) <;> (try rw [hZ]) <;> (try simp only [decide_eq_true_eq, decide_eq_false_iff_not, Bool.or_eq_true, Bool.and_eq_true, Bool.or_eq_false_iff, Bool.and_eq_false_imp, Bool.not_eq_true', Bool.not_eq_false', beq_iff_eq, beq_eq_false_iff_ne, bne_iff_ne, bne_eq_false_iff_eq, ne_eq, Bool.not_eq_eq_eq_not, Bool.not_true, Bool.not_false] at hZ) <;> (try (first | rw [(hZ : _ = false)] | rw [(hZ : _ = true)])) <;> skip)
      | (refine vc_pure (c1) rfl ?_; (try simp (config := { maxSteps := 2000000 }) (implicitDefEqProofs := false) (disch := first | omega | assumption | (simp only []; done) | fail) only [go_sem]))
      )
    all_goals first | rfl | contradiction
  rw [if_neg (by rw [hv]; decide)]
  have hle := tblB_len hv
  have hsm : ∀ t ∈ l, t.l.length ≤ 4096 ∧ t.s.length ≤ 8 := fun t ht => by
    obtain ⟨i, hi, rfl⟩ := List.getElem_of_mem ht
    exact okB_len (tblB_at hv hi)
  rw [hv] at c1
  have p1 := rput_v [] (by simp) l.length 2 (by omega) (by omega)
  simp (config := { maxSteps := 2000000 }) (implicitDefEqProofs := false) (disch := first | omega | assumption | (simp only []; done) | fail) only [go_sem, Nat.reduceBEq, Int.reduceBEq, Try.f27]
  skip
  repeat' (first
    | (refine vrunG_split (fun hZ => ?_) (fun hZ => ?_) <;> (try rw [hZ]) <;> (try simp only [decide_eq_true_eq, decide_eq_false_iff_not, Bool.or_eq_true, Bool.and_eq_true, Bool.or_eq_false_iff, Bool.and_eq_false_imp, Bool.not_eq_true', Bool.not_eq_false', beq_iff_eq, beq_eq_false_iff_ne, bne_iff_ne, bne_eq_false_iff_eq, ne_eq, Bool.not_eq_eq_eq_not, Bool.not_true, Bool.not_false] at hZ) <;> (try (first | rw [(hZ : _ = false)] | rw [(hZ : _ = true)])) <;> skip)
    | (refine vbr_split (fun hZ => ?_) (fun hZ => ?_) <;> (try rw [hZ]) <;> (try simp only [decide_eq_true_eq, decide_eq_false_iff_not, Bool.or_eq_true, Bool.and_eq_true, Bool.or_eq_false_iff, Bool.and_eq_false_imp, Bool.not_eq_true', Bool.not_eq_false', beq_iff_eq, beq_eq_false_iff_ne, bne_iff_ne, bne_eq_false_iff_eq, ne_eq, Bool.not_eq_eq_eq_not, Bool.not_true, Bool.not_false] at hZ) <;> (try (first | rw [(hZ : _ = false)] | rw [(hZ : _ = true)])) <;> skip)
    | (refine vdrG_split (fun hZ => ?_) (fun hZ => ?_) <;> (try rw [hZ]) <;> (try simp only [decide_eq_true_eq, decide_eq_false_iff_not, Bool.or_eq_true, Bool.and_eq_true, Bool.or_eq_false_iff, Bool.and_eq_false_imp, Bool.not_eq_true', Bool.not_eq_false', beq_iff_eq, beq_eq_false_iff_ne, bne_iff_ne, bne_eq_false_iff_eq, ne_eq, Bool.not_eq_eq_eq_not, Bool.not_true, Bool.not_false] at hZ) <;> (try (first | rw [(hZ : _ = false)] | rw [(hZ : _ = true)])) <;> skip)
    | (refine vc_pure (c1) rfl ?_; (try simp (config := { maxSteps := 2000000 }) (implicitDefEqProofs := false) (disch := first | omega | assumption | (simp only []; done) | fail) only [go_sem, Nat.reduceBEq, Int.reduceBEq]))
    | (refine vc_pure (p1) rfl ?_; (try simp (config := { maxSteps := 2000000 }) (implicitDefEqProofs := false) (disch := first | omega | assumption | (simp only []; done) | fail) only [go_sem]))
    )
  refine vloopW (fun t : To l.length => ⟨56, 0, [(5, .int .i64 t.i), (0, .pv (.sl (fz encT l))), (4, .pv (.str (encTs (putL [] l.length 2) (l.take t.i))))], []⟩) (fun t => l.length - t.i) ⟨0, Nat.zero_le _⟩ (by refine gc_of (keep := []) rfl rfl rfl (by decide) ?_ ?_ <;> (repeat' apply And.intro) <;> first | trivial | rfl | exact ⟨_, rfl, rfl, rfl, .inl ⟨rfl, rfl⟩⟩ | exact ⟨_, rfl, rfl, rfl, .inl ⟨cells_nums _ _ _, rfl⟩⟩ | exact ⟨_, rfl, rfl, rfl, .inl ⟨pvs_nums _ _, rfl⟩⟩ | exact ⟨_, rfl, rfl, rfl, .inr ⟨rfl, rfl⟩⟩) ?_
  intro t
  have hi := t.hi
  have hg := fun h : t.i < l.length => fzT_at l t.i h
  have hlen := encTs_le (m := 0) (l.take t.i) (putL [] l.length 2) fun t ht => hsm t (List.mem_of_mem_take ht)
  rw [putL_len, List.length_take] at hlen
  have hsc := encTs_succ (putL [] l.length 2) l t.i
  by_cases hc : t.i < l.length
  · replace hg := hg hc
    replace hsc := hsc hc
    obtain ⟨hq1, hq2⟩ := hsm l[t.i] (List.getElem_mem hc)
    generalize encTs (putL [] l.length 2) (l.take t.i) = s at *
    generalize l[t.i] = x at *
    obtain ⟨id, st, n, b, q, sv⟩ := x
    dsimp only at hg hq1 hq2
    unfold encT1 at hsc
    dsimp only at hsc
    have z0 : s.length ≤ 3000000 := by simp at hlen; omega
    have p2 := rput_v s (by omega) id 4 (by omega) (by omega)
    have p3 := rput_v (putL s id 4) (by rw [putL_len]; omega) st 1 (by omega) (by omega)
    have p4 := rput_v (putL (putL s id 4) st 1) (by rw [putL_len, putL_len]; omega) n 8 (by omega) (by omega)
    have p5 := rput_v (putL (putL (putL s id 4) st 1) n 8) (by rw [putL_len, putL_len, putL_len]; omega) b 8 (by omega) (by omega)
    have p6 := rput_v (putL (putL (putL (putL s id 4) st 1) n 8) b 8) (by rw [putL_len, putL_len, putL_len, putL_len]; omega) q.length 2 (by omega) (by omega)
    have p6b := rnum_v (putL (putL (putL (putL (putL s id 4) st 1) n 8) b 8) q.length 2) q (by rw [putL_len, putL_len, putL_len, putL_len, putL_len]; omega)
    have p7 := rput_v (putN (putL (putL (putL (putL (putL s id 4) st 1) n 8) b 8) q.length 2) q) (by rw [putN_len s, putL_len, putL_len, putL_len, putL_len, putL_len]; omega) sv.length 1 (by omega) (by omega)
    have p7b := rnum_v (putL (putN (putL (putL (putL (putL (putL s id 4) st 1) n 8) b 8) q.length 2) q) sv.length 1) sv (by rw [putL_len, putN_len s, putL_len, putL_len, putL_len, putL_len, putL_len]; omega)
    (try simp (config := { maxSteps := 2000000 }) (implicitDefEqProofs := false) (disch := first | omega | assumption | (simp only [List.length_cons, List.length_nil, Nat.zero_add, Nat.reduceAdd]; done) | fail) only [go_sem, V.splice, ↓reduceIte, reduceCtorEq, Nat.reduceAdd, Nat.reduceBEq, Int.reduceAdd, Int.reduceBEq, hg])
    repeat' (first
      | (refine vrunG_split (fun hZ => ?_) (fun hZ => ?_) <;> (try rw [hZ]) <;> (try simp only [decide_eq_true_eq, decide_eq_false_iff_not, Bool.or_eq_true, Bool.and_eq_true, Bool.or_eq_false_iff, Bool.and_eq_false_imp, Bool.not_eq_true', Bool.not_eq_false', beq_iff_eq, beq_eq_false_iff_ne, bne_iff_ne, bne_eq_false_iff_eq, ne_eq, Bool.not_eq_eq_eq_not, Bool.not_true, Bool.not_false] at hZ) <;> (try (first | rw [(hZ : _ = false)] | rw [(hZ : _ = true)])) <;> skip)
      | (refine vbr_split (fun hZ => ?_) (fun hZ => ?_) <;> (try rw [hZ]) <;> (try simp only [decide_eq_true_eq, decide_eq_false_iff_not, Bool.or_eq_true, Bool.and_eq_true, Bool.or_eq_false_iff, Bool.and_eq_false_imp, Bool.not_eq_true', Bool.not_eq_false', beq_iff_eq, beq_eq_false_iff_ne, bne_iff_ne, bne_eq_false_iff_eq, ne_eq, Bool.not_eq_eq_eq_not, Bool.not_true, Bool.not_false] at hZ) <;> (try (first | rw [(hZ : _ = false)] | rw [(hZ : _ = true)])) <;> skip)
      | (refine vdrG_split (fun hZ => ?_) (fun hZ => ?_) <;> (try rw [hZ]) <;> (try simp only [decide_eq_true_eq, decide_eq_false_iff_not, Bool.or_eq_true, Bool.and_eq_true, Bool.or_eq_false_iff, Bool.and_eq_false_imp, Bool.not_eq_true', Bool.not_eq_false', beq_iff_eq, beq_eq_false_iff_ne, bne_iff_ne, bne_eq_false_iff_eq, ne_eq, Bool.not_eq_eq_eq_not, Bool.not_true, Bool.not_false] at hZ) <;> (try (first | rw [(hZ : _ = false)] | rw [(hZ : _ = true)])) <;> skip)
      | (refine vc_pure (p2) rfl ?_; (try simp (config := { maxSteps := 2000000 }) (implicitDefEqProofs := false) (disch := first | omega | assumption | (simp only []; done) | fail) only [go_sem, ↓reduceIte, reduceCtorEq, Nat.reduceBEq, Int.reduceBEq]))
      | (refine vc_pure (p3) rfl ?_; (try simp (config := { maxSteps := 2000000 }) (implicitDefEqProofs := false) (disch := first | omega | assumption | (simp only []; done) | fail) only [go_sem, ↓reduceIte, reduceCtorEq, Nat.reduceBEq, Int.reduceBEq]))
      | (refine vc_pure (p4) rfl ?_; (try simp (config := { maxSteps := 2000000 }) (implicitDefEqProofs := false) (disch := first | omega | assumption | (simp only []; done) | fail) only [go_sem, ↓reduceIte, reduceCtorEq, Nat.reduceBEq, Int.reduceBEq]))
      | (refine vc_pure (p5) rfl ?_; (try simp (config := { maxSteps := 2000000 }) (implicitDefEqProofs := false) (disch := first | omega | assumption | (simp only []; done) | fail) only [go_sem]))
      | (refine vc_pure (p6) rfl ?_; (try simp (config := { maxSteps := 2000000 }) (implicitDefEqProofs := false) (disch := first | omega | assumption | (simp only []; done) | fail) only [go_sem, Nat.reduceBEq, Int.reduceBEq]))
      | (refine vc_pure (p6b) rfl ?_; (try simp (config := { maxSteps := 2000000 }) (implicitDefEqProofs := false) (disch := first | omega | assumption | (simp only []; done) | fail) only [go_sem, Nat.reduceBEq, Int.reduceBEq]))
      | (refine vc_pure (p7) rfl ?_; (try simp (config := { maxSteps := 2000000 }) (implicitDefEqProofs := false) (disch := first | omega | assumption | (simp only []; done) | fail) only [go_sem, Nat.reduceBEq, Int.reduceBEq]))
      | (refine vc_pure (p7b) rfl ?_; (try simp (config := { maxSteps := 2000000 }) (implicitDefEqProofs := false) (disch := first | omega | assumption | (simp only []; done) | fail) only [go_sem, Nat.reduceBEq, Int.reduceBEq]))
      | (refine vspine (id := 12) [0, 1, 2, 3, 5, 6] [⟨[], [], 4, [1, 2, 5, 6], []⟩, ⟨[], [], 7, [0, 1, 2, 3, 5], []⟩, ⟨[], [], 8, [], []⟩] (by kernel_rfl) (by kernel_rfl) ?_; (try simp (config := { maxSteps := 2000000 }) (implicitDefEqProofs := false) (disch := first | omega | assumption | (simp only []; done) | fail) only [go_sem, ↓reduceIte, reduceCtorEq, Nat.reduceBEq, Int.reduceBEq]))
      | (refine vspine (id := 13) [0, 1, 2, 3, 5, 6] [⟨[], [], 4, [1, 2, 5, 6], []⟩, ⟨[], [], 7, [0, 1, 2, 3, 5], []⟩, ⟨[], [], 8, [], []⟩] (by kernel_rfl) (by kernel_rfl) ?_; (try simp (config := { maxSteps := 2000000 }) (implicitDefEqProofs := false) (disch := first | omega | assumption | (simp only []; done) | fail) only [go_sem, ↓reduceIte, reduceCtorEq, Nat.reduceBEq, Int.reduceBEq]))
      )
    all_goals
      refine ⟨⟨t.i + 1, by omega⟩, by show l.length - (t.i + 1) < l.length - t.i; omega, ?_⟩
      dsimp only
      rw [hsc]
      exact (by refine gc_of (keep := []) rfl rfl rfl (by decide) ?_ ?_ <;> (repeat' apply And.intro) <;> first | trivial | rfl | exact ⟨_, rfl, rfl, rfl, .inl ⟨rfl, rfl⟩⟩ | exact ⟨_, rfl, rfl, rfl, .inl ⟨cells_nums _ _ _, rfl⟩⟩ | exact ⟨_, rfl, rfl, rfl, .inl ⟨pvs_nums _ _, rfl⟩⟩ | exact ⟨_, rfl, rfl, rfl, .inr ⟨rfl, rfl⟩⟩)
  · simp (config := { maxSteps := 2000000 }) (implicitDefEqProofs := false) (disch := first | omega | assumption | (simp only []; done) | fail) only [go_sem, ↓reduceIte, Nat.reduceLT, Nat.reduceBEq, Int.reduceLT, Int.reduceBEq]
    skip
    repeat' (first
      | (refine vrunG_split (fun hZ => ?_) (fun hZ => ?_) <;> (try rw [hZ]) <;> (try simp only [decide_eq_true_eq, decide_eq_false_iff_not, Bool.or_eq_true, Bool.and_eq_true, Bool.or_eq_false_iff, Bool.and_eq_false_imp, Bool.not_eq_true', Bool.not_eq_false', beq_iff_eq, beq_eq_false_iff_ne, bne_iff_ne, bne_eq_false_iff_eq, ne_eq, Bool.not_eq_eq_eq_not, Bool.not_true, Bool.not_false] at hZ) <;> (try (first | rw [(hZ : _ = false)] | rw [(hZ : _ = true)])) <;> skip)
      | (refine vbr_split (fun hZ => ?_) (fun hZ => ?_) <;> (try rw [hZ]) <;> (try simp only [decide_eq_true_eq, decide_eq_false_iff_not, Bool.or_eq_true, Bool.and_eq_true, Bool.or_eq_false_iff, Bool.and_eq_false_imp, Bool.not_eq_true', Bool.not_eq_false', beq_iff_eq, beq_eq_false_iff_ne, bne_iff_ne, bne_eq_false_iff_eq, ne_eq, Bool.not_eq_eq_eq_not, Bool.not_true, Bool.not_false] at hZ) <;> (try (first | rw [(hZ : _ = false)] | rw [(hZ : _ = true)])) <;> skip)
      | (refine vdrG_split (fun hZ => ?_) (fun hZ => ?_) <;> (try rw [hZ]) <;> (try simp only [decide_eq_true_eq, decide_eq_false_iff_not, Bool.or_eq_true, Bool.and_eq_true, Bool.or_eq_false_iff, Bool.and_eq_false_imp, Bool.not_eq_true', Bool.not_eq_false', beq_iff_eq, beq_eq_false_iff_ne, bne_iff_ne, bne_eq_false_iff_eq, ne_eq, Bool.not_eq_eq_eq_not, Bool.not_true, Bool.not_false] at hZ) <;> (try (first | rw [(hZ : _ = false)] | rw [(hZ : _ = true)])) <;> skip)
      )
    all_goals (rw [List.take_of_length_le (by omega)]; rfl)
end Go.Proofs.Ytkbahhackcnnbaa
