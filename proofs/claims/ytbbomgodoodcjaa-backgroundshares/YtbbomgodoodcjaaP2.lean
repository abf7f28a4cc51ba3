/-
  Contracts of functions of the program and of the statements, and plain laws. No condition.
-/
import Derived.Test.YtbbomgodoodcjaaP1
import Derived.Test.YtbbomgodoodcjaaV2
namespace Go.Proofs.Ytbbomgodoodcjaa
open Go.V Go
set_option maxRecDepth 100000
set_option pp.deepTerms true
set_option pp.deepTerms.threshold 100000
set_option pp.maxSteps 1000000
set_option pp.proofs false
set_option linter.unusedSimpArgs false

theorem vc_draw (l : List UInt8) (most : Nat) (hm : 1 ≤ most) (h : most ≤ 1000000) (hl : l.length ≤ 9223372036854775807) {hp : Heap} {K : DV → Heap → Prop} (hK : K (.ptr hp.length 0) (hp ++ [cb (cnew l most h)])) : VCalls Try.prog 9 [.pv (.sl (sl8 l)), .int .i64 most] hp K :=
  (VCalls.new (draw_v l most hm h hl) rfl).mono fun r h' ⟨B, e1, e2, _, _, e3⟩ => by subst e1 e2 e3; exact hK

theorem next_spec (q : Q) (l : List W) (hv : valid q = true) : (next q l).e = 0 ∧ (next q l).ok = someOff q l ∧ (someOff q l = false → (next q l).q = q ∧ (next q l).w = W0) ∧ (someOff q l = true → firstOf l (next q l).w.kind = some (next q l).w) ∧ valid (next q l).q = true ∧ (next q l).q.sh = q.sh := by
  rw [next, if_pos hv]
  have hv2 := hv
  rw [valid, Bool.and_eq_true] at hv2
  have hk := of_decide_eq_true hv2.2
  cases hs : someOff q l with
  | false => exact ⟨rfl, rfl, fun _ => ⟨rfl, rfl⟩, fun h => by simp at h, hv, rfl⟩
  | true =>
    rw [if_pos rfl]
    have hsp := (steps_spec q l ⟨hk.1, hk.2.1⟩ hs).2.1
    have hok := advN_ok q hv (steps q l)
    generalize hp : q.advN (steps q l) = p at *
    have hsh : p.sh = q.sh := by rw [← hp, advN_sh]
    rw [Q.good, Bool.and_eq_true, ← has_first, Option.isSome_iff_exists] at hsp
    obtain ⟨hlt, w, hw⟩ := hsp
    have hlt := of_decide_eq_true hlt
    refine ⟨rfl, rfl, fun h => by simp at h, fun _ => ?_, ?_, hsh⟩
    · show firstOf l ((firstOf l p.kind).getD W0).kind = some ((firstOf l p.kind).getD W0)
      rw [hw, Option.getD_some]
      have : w.kind = p.kind := by have := List.find?_some hw; simpa using this
      rw [this]; exact hw
    · rw [valid, Bool.and_eq_true]
      refine ⟨?_, decide_eq_true ⟨hok.1.1, hok.1.2, ?_, ?_⟩⟩
      · show p.sh.all _ = true
        rw [hsh]; exact hv2.1
      · show 0 ≤ p.used + 1
        omega
      · show p.used + 1 ≤ shareAt p p.kind
        omega

theorem someOff_cons (q : Q) (a : W) (l : List W) : someOff q (a :: l) = (decide (1 ≤ a.kind ∧ a.kind ≤ 8 ∧ 0 < shareAt q a.kind) || someOff q l) := rfl
theorem drop_pre {α : Type} (w : List α) (j : Nat) (h : j - 1 < w.length) (h1 : 1 ≤ j) : w.drop (j - 1) = w[j - 1] :: w.drop j := by
  rw [List.drop_eq_getElem_cons h]; congr 2; omega
theorem len8 {l : List Int} (h : l.length = 8) : ∃ a b c d e f g i, l = [a, b, c, d, e, f, g, i] := by
  match l, h with
  | [a, b, c, d, e, f, g, i], _ => exact ⟨a, b, c, d, e, f, g, i, rfl⟩
def qeq (a b : Q) : Bool := a.sh == b.sh && (a.kind == b.kind && a.used == b.used)
theorem qeq_self (a : Q) : qeq a a = true := by simp [qeq]
theorem qc_eq (a b : Q) : allEq (qc a) (qc b) [(0, 1), (1, 1), (2, 1), (3, 1), (4, 1), (5, 1), (6, 1), (7, 1), (8, 1), (9, 1)] = some (qeq a b) := by
  obtain ⟨sa, ka, ua, ha, _⟩ := a
  obtain ⟨sb, kb, ub, hb, _⟩ := b
  obtain ⟨a0, a1, a2, a3, a4, a5, a6, a7, rfl⟩ := len8 ha
  obtain ⟨b0, b1, b2, b3, b4, b5, b6, b7, rfl⟩ := len8 hb
  simp [allEq, leafEq, qc, ints, qeq, Bool.and_assoc]

theorem qc_drop10 (q : Q) : (qc q).drop 10 = [] := List.drop_of_length_le (by rw [qc_len]; omega)
theorem allEq_w (a b c d : Int) : allEq [.pv (.lit (.int .i64 a)), .pv (.lit (.int .i64 b))] [.pv (.lit (.int .i64 c)), .pv (.lit (.int .i64 d))] [(0, 1), (1, 1)] = some (a == c && b == d) := by simp [allEq, leafEq]

/-- The pass over the offers from behind. -/
structure I3b (w : List W) where
  j : Nat
  hj : j ≤ w.length

structure I3 (s : List Int) where
  n : Nat
  hn : n ≤ 20
  c : C
  q : Q
  hq : q.sh = s
  hv : valid q = true

set_option maxHeartbeats 4000000 in
theorem offered_v (l : List UInt8) (hl : l.length ≤ 9223372036854775807) : VCalls Try.prog 3 [.pv (.sl (sl8 l))] [] (Ret (.bool true)) := by
  refine vcalls_drop (fn := Try.f3) Try.func3 rfl (by kernel_rfl) (by simp [Try.f3]) ?_
  simp (config := { maxSteps := 2000000 }) (disch := first | omega | assumption | (simp only [List.length_cons, List.length_nil, Nat.zero_add, Nat.reduceAdd]; done) | (simp only [IntKind.wrap_i64]; omega)) only [vop_assign, vcallee_assign, vcallee_value, vcal_fn, strip_pv, strip_fn, optV_none, ev_const, ev_func, ofConst_bool, put_some, at_mk, fits_some, guard_none, ↓vrun_nil, ↓code_region, ↓code_seq, ↓onNormal_normal, enum_nil, enum_cons, evG_eq, ↓vrun_cons, ↓run1_some, ↓run2_none, ↓run2_some, ↓run3_some, ↓vcg_none, List.map_nil, List.toList_toArray, List.length_nil, List.map_nil, List.append_nil, Nat.reduceLT, Int.reduceLT, Nat.zero_add, true_and, Bool.true_and, Bool.cond_self, dec_t, Try.f3]
  refine vc_pure awake_v rfl ?_
  simp (config := { maxSteps := 2000000 }) (disch := first | omega | assumption | (simp only [List.length_cons, List.length_nil, Nat.zero_add, Nat.reduceAdd]; done) | (simp only [IntKind.wrap_i64]; omega)) only [vop_move, vcallee_move, vop_unOp, vcallee_unOp, vcallee_value, vcal_fn, strip_pv, strip_fn, optV_none, ev_tmp, ev_const, ev_func, ofConst_int, put_some, at_mk, fits_some, ↓look_cons, ↓vlook_t, ↓vlook_f, guard_none, ↓vrun_nil, ↓code_skip, ↓code_region, ↓code_seq, ↓onNormal_normal, un_not, evG_eq, ↓vrun_cons, ↓run1_some, ↓run2_none, ↓run2_some, ↓run3_some, ↓runK_eq, ↓vcg_none, ↓code_cond, ↓vtest_bool, ↓vbr_false, List.map_nil, List.map_cons, List.map_nil, List.nil_append, List.append_nil, Option.map_some, Nat.reduceLT, Nat.reduceBEq, Int.reduceLT, Int.reduceBEq, true_and, Bool.not_true, Bool.true_and, Bool.cond_self, beq_self_eq_true, dec_t]
  refine vc_draw l 400 (by omega) (by omega) hl ?_
  simp (config := { maxSteps := 2000000 }) (disch := first | omega | assumption | (simp only [List.length_cons, List.length_nil, Nat.zero_add, Nat.reduceAdd]; done) | (simp only [IntKind.wrap_i64]; omega)) only [vop_move, vcallee_move, vop_assign, vcallee_assign, vcallee_value, vcal_fn, strip_ptr, strip_fn, optV_none, ev_tmp, ev_func, put_some, at_mk, fits_some, ↓look_cons, ↓vlook_t, guard_none, ↓vrun_nil, ↓code_region, ↓code_seq, ↓onNormal_normal, evG_eq, ↓vrun_cons, ↓run1_some, ↓run2_none, ↓run2_some, ↓run3_some, ↓runK_eq, ↓vcg_none, List.map_nil, List.length_nil, List.map_cons, List.map_nil, List.nil_append, List.append_nil, Nat.reduceLT, Int.reduceLT, true_and, Bool.true_and, Bool.cond_self, beq_self_eq_true, dec_t]
  refine vc_codesR (k := 0) (c := cnew l 400 (by omega)) rfl (shares_v _) rfl ?_
  rintro _ c ⟨s, hs, rfl⟩
  simp (config := { maxSteps := 2000000 }) (disch := first | omega | assumption | (simp only [List.length_cons, List.length_nil, Nat.zero_add, Nat.reduceAdd]; done) | (simp only [IntKind.wrap_i64]; omega)) only [vop_alloc, vcallee_alloc, vop_load, vcallee_load, vop_store, vcallee_store, vcallee_value, vcal_fn, strip_ptr, strip_agg, strip_fn, optV_none, ev_tmp, ev_func, put_some, put_none, at_mk, fits_some, fits_none, ↓look_cons, ↓vlook_t, ↓vlook_f, guard_none, ↓vrun_nil, ↓code_region, ↓code_seq, ↓onNormal_normal, load_ptr, vld_agg, store_ptr, vst_agg, blk_zero, blk_succ, set_zero, set_succ, alloc_eq, val1_some, allOne_nil, allOne_cons, one_pv, evG_eq, ↓vrun_cons, ↓run1_some, ↓run2_none, ↓run2_some, ↓run3_some, ↓runK_eq, ↓vcg_none, List.map_nil, V.splice, List.length_cons, List.length_nil, List.map_cons, List.map_nil, List.cons_append, List.nil_append, List.append_nil, List.take_zero, List.drop_succ_cons, List.drop_zero, List.drop_nil, List.set_cons_zero, Option.map_some, ↓reduceIte, Nat.reduceAdd, Nat.reduceLT, Nat.reduceBEq, Int.reduceLT, Int.reduceAdd, Int.reduceBEq, Nat.zero_add, true_and, and_self, Bool.true_and, Bool.and_self, cond_true, Bool.cond_self, beq_self_eq_true, Nat.le_refl, Try.vt26, Try.vzero26, dec_t, ints_len, ints_one, hs, ints_take8 s hs]
  refine vc_pure (new_v s hs) (by simp only [DV.nums, DV.nums.go, Bool.and_self, ints_nums]) ?_
  simp (config := { maxSteps := 2000000 }) (disch := first | omega | assumption | (simp only [List.length_cons, List.length_nil, Nat.zero_add, Nat.reduceAdd]; done) | (simp only [IntKind.wrap_i64]; omega)) only [vop_move, vcallee_move, vop_assign, vcallee_assign, vop_alloc, vcallee_alloc, vop_store, vcallee_store, vop_binOp, vcallee_binOp, vop_extract, vcallee_extract, strip_pv, strip_ptr, strip_agg, strip_tup, optV_none, ev_tmp, ev_const, ofConst_int, put_some, put_none, at_mk, fits_some, fits_none, ↓look_cons, ↓vlook_t, ↓vlook_f, guard_none, ↓vrun_nil, ↓code_region, ↓code_seq, ↓onNormal_normal, store_ptr, vst_agg, blk_zero, blk_succ, set_zero, set_succ, alloc_eq, val1_some, allOne_nil, allOne_cons, one_pv, bin_int, int_neq, ext_tup, evG_eq, ↓vrun_cons, ↓run1_some, ↓run2_none, ↓run3_some, ↓runK_eq, ↓code_cond, ↓vtest_bool, V.splice, List.getElem?_cons_zero, List.getElem?_cons_succ, List.length_cons, List.length_nil, List.cons_append, List.nil_append, List.append_nil, List.take_zero, List.drop_succ_cons, List.drop_nil, Option.map_some, ↓reduceIte, Nat.reduceAdd, Nat.reduceLT, Nat.reduceBEq, Int.reduceLT, Int.reduceAdd, Int.reduceBEq, Nat.zero_add, true_and, and_self, Bool.true_and, Bool.and_self, cond_true, Bool.cond_self, beq_self_eq_true, Nat.le_refl, Try.vt29, Try.vzero29, dec_t, qc_len, qc_one]
  refine vbr_split (fun hv => ?_) (fun hv => ?_) <;> simp only [decide_eq_true_eq, decide_eq_false_iff_not, Bool.or_eq_true, Bool.and_eq_true, Bool.or_eq_false_iff, Bool.and_eq_false_imp, Bool.not_eq_true', Bool.not_eq_false', beq_iff_eq, beq_eq_false_iff_ne, bne_iff_ne, bne_eq_false_iff_eq, ne_eq] at hv
  · simp (config := { maxSteps := 2000000 }) (disch := first | omega | assumption | (simp only [List.length_cons, List.length_nil, Nat.zero_add, Nat.reduceAdd]; done) | (simp only [IntKind.wrap_i64]; omega)) only [vop_assign, vcallee_assign, strip_pv, optV_none, ev_const, ofConst_bool, put_some, at_mk, fits_some, ↓look_cons, ↓vlook_t, guard_none, ↓vrun_nil, ↓code_region, ↓code_seq, ↓code_ret, ↓onNormal_normal, ↓onNormal_ret, frz_pv, frzHeap_zero, res_one, vres_tmp, evG_eq, ↓vrun_cons, ↓run1_some, ↓run2_none, ↓run3_some, ↓vpost_ret, vfin_some, vfin2_some, at_hp, Nat.reduceLT, Int.reduceLT, and_self, Bool.and_self, Bool.cond_self, beq_self_eq_true, dec_t, int_bne_t, Ret, DV.nums]
  · have hv' : valid (newQ s hs) = true := by
      by_cases h : valid (newQ s hs) = true
      · exact h
      · rw [if_neg h] at hv; omega
    simp (config := { maxSteps := 2000000 }) (disch := first | omega | assumption | (simp only [List.length_cons, List.length_nil, Nat.zero_add, Nat.reduceAdd]; done) | (simp only [IntKind.wrap_i64]; omega)) only [vop_assign, vcallee_assign, strip_pv, optV_none, ev_const, ofConst_int, put_some, at_mk, fits_some, guard_none, ↓vrun_nil, ↓code_skip, ↓code_region, ↓code_seq, ↓code_block, ↓code_loop, ↓onNormal_normal, evG_eq, ↓vrun_cons, ↓run1_some, ↓run2_none, ↓run3_some, ↓reduceIte, Nat.reduceLT, Int.reduceLT, true_and, Bool.true_and, Bool.cond_self, dec_t, int_bne_f, hv']
    refine vloop (fun i : I3 s => ⟨120, 0, [(7, .int .i64 i.n), (5, .ptr 2 0), (4, .ptr 1 0), (3, .ptr 0 0), (2, .bool false)], [cb i.c, ⟨26, true, ints s⟩, ⟨29, true, qc i.q⟩]⟩) (fun i => 20 - i.n) ⟨0, by omega, c, newQ s hs, rfl, hv'⟩ (by refine ⟨rfl, rfl, by simp, ?_, ?_, .inl rfl⟩ <;> (repeat' apply And.intro) <;> first | rfl | trivial) ?_
    intro i
    simp (config := { maxSteps := 2000000 }) (disch := first | omega | assumption | (simp only [List.length_cons, List.length_nil, Nat.zero_add, Nat.reduceAdd]; done) | (simp only [IntKind.wrap_i64]; omega)) only [vop_move, vcallee_move, vop_binOp, vcallee_binOp, strip_pv, optV_none, ev_tmp, ev_const, ofConst_int, put_some, at_mk, fits_some, ↓look_cons, ↓vlook_t, guard_none, ↓vrun_nil, ↓code_region, ↓code_seq, ↓onNormal_normal, bin_int, int_lss, evG_eq, ↓vrun_cons, ↓run1_some, ↓run2_none, ↓run3_some, ↓code_cond, ↓vtest_bool, Option.map_some, Nat.reduceLT, Int.reduceLT, true_and, Bool.true_and, Bool.cond_self, beq_self_eq_true, dec_t]
    refine vbr_split (fun hc => ?_) (fun hc => ?_) <;> simp only [decide_eq_true_eq, decide_eq_false_iff_not, Bool.or_eq_true, Bool.and_eq_true, Bool.or_eq_false_iff, Bool.and_eq_false_imp, Bool.not_eq_true', Bool.not_eq_false', beq_iff_eq, beq_eq_false_iff_ne, bne_iff_ne, bne_eq_false_iff_eq, ne_eq] at hc
    · simp (config := { maxSteps := 2000000 }) (disch := first | omega | assumption | (simp only [List.length_cons, List.length_nil, Nat.zero_add, Nat.reduceAdd]; done) | (simp only [IntKind.wrap_i64]; omega)) only [vop_move, vcallee_move, vcallee_value, vcal_fn, strip_ptr, strip_fn, optV_none, ev_tmp, ev_func, put_some, at_mk, fits_some, ↓look_cons, ↓vlook_t, ↓vlook_f, guard_none, ↓code_skip, ↓code_region, ↓code_seq, ↓code_block, ↓onNormal_normal, evG_eq, ↓vrun_cons, ↓run1_some, ↓run2_none, ↓run2_some, ↓run3_some, ↓vcg_none, List.map_nil, List.map_cons, List.map_nil, List.nil_append, List.append_nil, Nat.reduceLT, Nat.reduceBEq, Int.reduceLT, Int.reduceBEq, true_and, Bool.true_and, Bool.cond_self, beq_self_eq_true, dec_t]
      refine vc_codesR (k := 0) (c := i.c) rfl (offers_v _) rfl ?_
      rintro _ c' ⟨w, hw, hwk, rfl⟩
      simp (config := { maxSteps := 2000000 }) (disch := first | omega | assumption | (simp only [List.length_cons, List.length_nil, Nat.zero_add, Nat.reduceAdd]; done) | (simp only [IntKind.wrap_i64]; omega)) only [vop_move, vcallee_move, vop_assign, vcallee_assign, vop_load, vcallee_load, vcallee_value, vcal_fn, strip_pv, strip_ptr, strip_agg, strip_fn, optV_none, ev_tmp, ev_func, put_some, at_mk, fits_some, ↓look_cons, ↓vlook_t, ↓vlook_f, guard_none, ↓vrun_nil, ↓code_region, ↓code_seq, ↓onNormal_normal, load_ptr, vld_agg, blk_zero, blk_succ, evG_eq, ↓vrun_cons, ↓run1_some, ↓run2_none, ↓run2_some, ↓run3_some, ↓runK_eq, ↓vcg_none, List.map_nil, List.map_cons, List.map_nil, List.nil_append, List.append_nil, List.drop_zero, List.set_cons_zero, Option.map_some, ↓reduceIte, Nat.reduceLT, Nat.reduceBEq, Int.reduceLT, Int.reduceBEq, Nat.zero_add, true_and, Bool.true_and, Bool.cond_self, beq_self_eq_true, Nat.le_refl, Try.vt29, dec_t, qc_len, qc_take10]
      refine vc_pure (next_v' i.q w (by omega)) (by simp only [DV.nums, DV.nums.go, Bool.and_self, qc_nums]) ?_
      simp (config := { maxSteps := 2000000 }) (disch := first | omega | assumption | (simp only [List.length_cons, List.length_nil, Nat.zero_add, Nat.reduceAdd]; done) | (simp only [IntKind.wrap_i64]; omega)) only [vop_move, vcallee_move, vop_assign, vcallee_assign, vop_alloc, vcallee_alloc, vop_store, vcallee_store, vop_binOp, vcallee_binOp, vop_extract, vcallee_extract, vop_builtin, vcallee_builtin, strip_pv, strip_ptr, strip_agg, strip_tup, optV_none, ev_tmp, ev_const, ofConst_int, ofConst_bool, put_some, put_none, at_mk, fits_some, fits_none, ↓look_cons, ↓vlook_t, ↓vlook_f, guard_none, ↓vrun_nil, ↓code_region, ↓code_seq, ↓code_block, ↓code_loop, ↓onNormal_normal, store_ptr, vst_agg, blk_zero, blk_succ, set_zero, set_succ, alloc_eq, val1_some, allOne_nil, allOne_cons, one_pv, bin_int, int_sub, ext_tup, len_sl, vlk_sl, bi_len, evG_eq, ↓vrun_cons, ↓run1_some, ↓run2_none, ↓run3_some, ↓runK_eq, List.map_nil, V.splice, List.getElem?_cons_zero, List.getElem?_cons_succ, List.length_cons, List.length_nil, List.map_cons, List.map_nil, List.cons_append, List.nil_append, List.append_nil, List.take_zero, List.drop_succ_cons, List.drop_nil, Option.map_some, ↓reduceIte, Nat.reduceAdd, Nat.reduceLT, Nat.reduceBEq, Int.reduceLT, Int.reduceAdd, Int.reduceBEq, Nat.zero_add, true_and, and_self, Bool.true_and, Bool.and_self, cond_true, Bool.cond_self, beq_self_eq_true, Nat.le_refl, Try.vt29, Try.vzero29, Try.vkind33, Try.vt36, Try.vzero36, wrap_i64_in, dec_t, Out.d, qc_len, qc_one, wc_len, wc_one, sw_len]
      obtain ⟨he, hok, h1, h2, h3, h4⟩ := next_spec i.q w i.hv
      generalize hx : next i.q w = x at *
      have hw1000 : w.length ≤ 1000000 := by omega
      refine vloop (fun j : I3b w => ⟨120, 0, [(15, .int .i64 (j.j - 1 : Int)), (14, .ptr 5 0), (13, .bool (someOff i.q (w.drop j.j))), (12, .int .i64 x.e), (11, .bool x.ok), (10, .ptr 4 0), (9, .ptr 3 0), (8, .pv (.sl (sw w))), (7, .int .i64 i.n), (5, .ptr 2 0), (4, .ptr 1 0), (3, .ptr 0 0), (2, .bool false)],
        [cb c', ⟨26, true, ints s⟩, ⟨29, true, qc i.q⟩, ⟨29, true, qc x.q⟩, ⟨36, true, wc x.w⟩, ⟨36, true, wc ((firstOf (w.drop j.j) x.w.kind).getD W0)⟩]⟩) (fun j => j.j) ⟨w.length, by omega⟩ (by simp only [List.drop_length]; exact (by refine ⟨rfl, rfl, by simp, ?_, ?_, .inr ⟨?_, ?_⟩⟩ <;> (repeat' apply And.intro) <;> first | rfl | trivial | (intro _; first | rfl | exact qc_refs _ _ | exact bls_refs _ _ | exact ints_refs _ _))) ?_
      intro j
      simp (config := { maxSteps := 2000000 }) (disch := first | omega | assumption | (simp only [List.length_cons, List.length_nil, Nat.zero_add, Nat.reduceAdd]; done) | (simp only [IntKind.wrap_i64]; omega)) only [vop_move, vcallee_move, vop_binOp, vcallee_binOp, strip_pv, optV_none, ev_tmp, ev_const, ofConst_int, put_some, at_mk, fits_some, ↓look_cons, ↓vlook_t, guard_none, ↓vrun_nil, ↓code_region, ↓code_seq, ↓onNormal_normal, bin_int, int_geq, evG_eq, ↓vrun_cons, ↓run1_some, ↓run2_none, ↓run3_some, ↓code_cond, ↓vtest_bool, Option.map_some, Nat.reduceLT, Int.reduceLT, true_and, Bool.true_and, Bool.cond_self, beq_self_eq_true, dec_t]
      refine vbr_split (fun hj => ?_) (fun hj => ?_) <;> simp only [decide_eq_true_eq, decide_eq_false_iff_not, Bool.or_eq_true, Bool.and_eq_true, Bool.or_eq_false_iff, Bool.and_eq_false_imp, Bool.not_eq_true', Bool.not_eq_false', beq_iff_eq, beq_eq_false_iff_ne, bne_iff_ne, bne_eq_false_iff_eq, ne_eq] at hj
      · have hlt : j.j - 1 < w.length := by have := j.hj; omega
        have hg := sw_get w (j.j - 1) hlt
        have e1 : ((j.j : Int) - 1).toNat = j.j - 1 := by omega
        have hsq : shareAt i.q w[j.j - 1].kind = s.getD (w[j.j - 1].kind - 1).toNat 0 := by rw [shareAt, i.hq]
        have hd := drop_pre w (j.j - 1 + 1) (by omega) (by omega)
        have hs1 : someOff i.q (w.drop (j.j - 1)) = (decide (1 ≤ w[j.j - 1].kind ∧ w[j.j - 1].kind ≤ 8 ∧ 0 < s.getD (w[j.j - 1].kind - 1).toNat 0) || someOff i.q (w.drop j.j)) := by
          rw [drop_pre w j.j hlt (by omega), someOff_cons, hsq]
        have hf1 : firstOf (w.drop (j.j - 1)) x.w.kind = if w[j.j - 1].kind == x.w.kind then some w[j.j - 1] else firstOf (w.drop j.j) x.w.kind := by
          rw [drop_pre w j.j hlt (by omega), firstOf, firstOf, List.find?_cons]; cases w[j.j - 1].kind == x.w.kind <;> rfl
        have hj1 : ((j.j - 1 : Nat) : Int) = (j.j : Int) - 1 := by omega
        have hvk := hwk _ (List.getElem_mem hlt)
        generalize w[j.j - 1] = v at *
        by_cases a : 1 ≤ v.kind
        · by_cases b : v.kind ≤ 8
          · have hg2 : (ints s)[(v.kind - 1).toNat]? = some (.int .i64 (s.getD (v.kind - 1).toNat 0)) := by
              have hlt : (v.kind - 1).toNat < s.length := by omega
              rw [ints_get, List.getElem?_eq_getElem hlt, List.getD_eq_getElem?_getD, List.getElem?_eq_getElem hlt]; rfl
            have hs2 : someOff i.q (w.drop (j.j - 1)) = (someOff i.q (w.drop j.j) || decide (0 < s.getD (v.kind - 1).toNat 0)) := by
              rw [hs1, Bool.or_comm]; simp only [a, b, true_and]
            simp (config := { maxSteps := 2000000 }) (disch := first | omega | assumption | (simp only [List.length_cons, List.length_nil, Nat.zero_add, Nat.reduceAdd]; done) | (simp only [IntKind.wrap_i64]; omega)) only [vop_move, vcallee_move, vop_assign, vcallee_assign, vop_pick, vcallee_pick, vop_load, vcallee_load, vop_binOp, vcallee_binOp, vop_fieldAddr, vcallee_fieldAddr, vop_indexAddr, vcallee_indexAddr, vpick_bool, strip_pv, strip_ptr, strip_opt, strip_vstr, vstr_true, optV_none, optV_some, pickV_bool, ev_tmp, ev_const, ofConst_int, ofConst_bool, put_some, at_mk, fits_some, ↓look_cons, ↓vlook_t, ↓vlook_f, guard_none, guard_some, vgof_bool, vgof_opt, ↓vrun_nil, ↓code_skip, ↓code_region, ↓code_draw, ↓code_seq, ↓code_block, ↓onNormal_normal, load_ptr, load_ip, vld_one, vldp_one, blk_zero, blk_succ, faddr_ip, vfai_some, iaddr_sl, vias_some, iaddr_ptr, viap_some, bin_int, int_sub, int_leq, int_gtr, int_geq, evG_eq, ↓vrun_cons, ↓run1_some, ↓run2_none, ↓run3_some, List.getElem?_cons_zero, List.getElem?_cons_succ, List.length_cons, List.length_nil, List.drop_zero, Option.map_some, Option.bind_some, ↓reduceIte, reduceCtorEq, Nat.reduceAdd, Nat.reduceLT, Nat.reduceBEq, Int.reduceLT, Int.reduceAdd, Int.reduceBEq, Nat.zero_add, Nat.mul_one, true_and, and_true, or_true, false_or, Bool.not_true, Bool.or_true, Bool.false_or, Bool.and_true, Bool.true_and, Bool.or_not_self, Bool.not_not, b_beq_f, cond_true, Bool.cond_self, Bool.cond_true_left, beq_self_eq_true, Try.vt3, Try.velem26, Try.velem33, Try.vfield36x0, wrap_i64_in, dec_t, hg, e1, wp, hg2, a, b]
            refine vdraw (by kernel_rfl) (by kernel_rfl) ?_
            simp (config := { maxSteps := 2000000 }) (disch := first | omega | assumption | (simp only [List.length_cons, List.length_nil, Nat.zero_add, Nat.reduceAdd]; done) | (simp only [IntKind.wrap_i64]; omega)) only [vop_move, vcallee_move, okKind_move, foot_move, vop_load, vcallee_load, okKind_load, vop_binOp, vcallee_binOp, okKind_binOp, foot_binOp, vop_fieldAddr, vcallee_fieldAddr, okKind_fieldAddr, foot_fieldAddr, vop_indexAddr, vcallee_indexAddr, okKind_indexAddr, foot_indexAddr, foot_load, ptrNo_ptr, ptrNo_ip, strip_pv, strip_ptr, strip_ip, optV_none, ev_tmp, put_some, at_mk, fits_some, ↓look_cons, ↓vlook_t, ↓vlook_f, guard_none, ↓vdr_nil, ↓onNormal_normal, load_ptr, load_ip, vld_one, vldp_one, blk_zero, blk_succ, faddr_ptr, vfap_some, faddr_ip, vfai_some, iaddr_sl, vias_some, bin_int, int_eql, okc_nil, okc_none, okc_other, evG_eq, ↓vdr_cons, ↓dr1_some, ↓dr2_none, ↓dr3_some, ↓code_cond, ↓vtest_bool, List.getElem?_cons_zero, List.length_cons, List.length_nil, List.cons_append, List.nil_append, List.drop_zero, Option.map_some, ↓reduceIte, reduceCtorEq, Nat.reduceAdd, Nat.reduceLT, Nat.reduceBEq, Int.reduceLT, Int.reduceAdd, Int.reduceBEq, Nat.zero_add, Nat.add_zero, true_and, Bool.true_and, Bool.cond_self, beq_self_eq_true, Try.vt3, Try.velem33, Try.vfield36x0, dec_t, hg, e1, wp, wc]
            refine vbr_split (fun hk => ?_) (fun hk => ?_) <;> simp only [decide_eq_true_eq, decide_eq_false_iff_not, Bool.or_eq_true, Bool.and_eq_true, Bool.or_eq_false_iff, Bool.and_eq_false_imp, Bool.not_eq_true', Bool.not_eq_false', beq_iff_eq, beq_eq_false_iff_ne, bne_iff_ne, bne_eq_false_iff_eq, ne_eq] at hk
            · have hf2 : firstOf (w.drop (j.j - 1)) x.w.kind = some v := by rw [hf1, if_pos (by simpa using hk)]
              simp (config := { maxSteps := 2000000 }) (disch := first | omega | assumption | (simp only [List.length_cons, List.length_nil, Nat.zero_add, Nat.reduceAdd]; done) | (simp only [IntKind.wrap_i64]; omega)) only [vop_move, vcallee_move, vop_assign, vcallee_assign, vop_load, vcallee_load, vop_store, vcallee_store, vop_binOp, vcallee_binOp, vop_indexAddr, vcallee_indexAddr, strip_pv, strip_ptr, strip_ip, strip_agg, optV_none, ev_tmp, ev_const, ofConst_int, put_some, put_none, at_mk, fits_some, fits_none, ↓look_cons, ↓vlook_t, ↓vlook_f, guard_none, ↓vrun_nil, ↓code_region, ↓onNormal_normal, ↓onBlock_normal, load_ip, vldp_agg, store_ptr, vst_agg, blk_zero, blk_succ, set_zero, set_succ, allOne_nil, allOne_cons, one_pv, iaddr_sl, vias_some, bin_int, int_sub, evG_eq, ↓vrun_cons, ↓run1_some, ↓run2_none, ↓run3_some, List.map_nil, V.splice, List.length_cons, List.length_nil, List.map_cons, List.map_nil, List.nil_append, List.append_nil, List.take_succ_cons, List.take_zero, List.take_nil, List.drop_succ_cons, List.drop_nil, Option.map_some, ↓reduceIte, Nat.reduceAdd, Nat.reduceLT, Nat.reduceBEq, Int.reduceLT, Int.reduceAdd, Int.reduceBEq, Nat.zero_add, true_and, and_self, Bool.true_and, Bool.and_self, cond_true, Bool.cond_self, beq_self_eq_true, Nat.le_refl, Try.velem33, Try.vt36, wrap_i64_in, dec_t, int_beq_t, hg, e1, wp]
              refine ⟨⟨j.j - 1, by have := j.hj; omega⟩, by show j.j - 1 < j.j; omega, ?_⟩
              simp only [hs2, hf2, hj1, Option.getD_some]
              exact (by refine ⟨rfl, rfl, by simp, ?_, ?_, .inr ⟨?_, ?_⟩⟩ <;> (repeat' apply And.intro) <;> first | rfl | trivial | (intro _; first | rfl | exact qc_refs _ _ | exact bls_refs _ _ | exact ints_refs _ _))
            · have hf2 : firstOf (w.drop (j.j - 1)) x.w.kind = firstOf (w.drop j.j) x.w.kind := by rw [hf1, if_neg (by simpa using hk)]
              simp (config := { maxSteps := 2000000 }) (disch := first | omega | assumption | (simp only [List.length_cons, List.length_nil, Nat.zero_add, Nat.reduceAdd]; done) | (simp only [IntKind.wrap_i64]; omega)) only [vop_move, vcallee_move, vop_assign, vcallee_assign, vop_binOp, vcallee_binOp, strip_pv, optV_none, ev_tmp, ev_const, ofConst_int, put_some, at_mk, fits_some, ↓look_cons, ↓vlook_t, ↓vlook_f, guard_none, ↓vrun_nil, ↓code_skip, ↓code_region, ↓onNormal_normal, ↓onBlock_normal, bin_int, int_sub, evG_eq, ↓vrun_cons, ↓run1_some, ↓run2_none, ↓run3_some, Option.map_some, Nat.reduceLT, Nat.reduceBEq, Int.reduceLT, Int.reduceBEq, true_and, Bool.true_and, Bool.cond_self, beq_self_eq_true, wrap_i64_in, dec_t, int_beq_f]
              refine ⟨⟨j.j - 1, by have := j.hj; omega⟩, by show j.j - 1 < j.j; omega, ?_⟩
              simp only [hs2, hf2, hj1]
              exact (by refine ⟨rfl, rfl, by simp, ?_, ?_, .inr ⟨?_, ?_⟩⟩ <;> (repeat' apply And.intro) <;> first | rfl | trivial | (intro _; first | rfl | exact qc_refs _ _ | exact bls_refs _ _ | exact ints_refs _ _))
          · have hs2 : someOff i.q (w.drop (j.j - 1)) = someOff i.q (w.drop j.j) := by
              rw [hs1]; simp only [b, false_and, and_false, decide_false, Bool.false_or]
            simp (config := { maxSteps := 2000000 }) (disch := first | omega | assumption | (simp only [List.length_cons, List.length_nil, Nat.zero_add, Nat.reduceAdd]; done) | (simp only [IntKind.wrap_i64]; omega)) only [vop_move, vcallee_move, vop_assign, vcallee_assign, vop_pick, vcallee_pick, vop_load, vcallee_load, vop_binOp, vcallee_binOp, vop_fieldAddr, vcallee_fieldAddr, vop_indexAddr, vcallee_indexAddr, vpick_bool, strip_pv, strip_ptr, strip_tup, strip_opt, strip_vstr, vstr_true, optV_none, optV_some, pickV_bool, ev_tmp, ev_const, ofConst_int, ofConst_bool, put_some, at_mk, fits_some, ↓look_cons, ↓vlook_t, ↓vlook_f, guard_none, guard_some, vgof_bool, vgof_opt, ↓vrun_nil, ↓code_skip, ↓code_region, ↓code_draw, ↓code_seq, ↓code_block, ↓onNormal_normal, load_ip, vldp_one, faddr_ip, vfai_some, iaddr_sl, vias_some, iaddr_ptr, bin_int, int_sub, int_leq, int_geq, evG_eq, ↓vrun_cons, ↓run1_some, ↓run2_none, ↓run3_some, ↓run3_none, pickV_f, load_tup, bin_tupL, viap_none, List.getElem?_cons_zero, List.getElem?_cons_succ, List.length_cons, List.length_nil, List.drop_zero, Option.map_some, Option.map_none, Option.bind_some, ↓reduceIte, reduceCtorEq, Nat.reduceAdd, Nat.reduceLT, Nat.reduceBEq, Int.reduceLT, Int.reduceAdd, Int.reduceBEq, Nat.zero_add, decide_false, true_and, and_true, and_false, or_true, or_false, false_or, Bool.not_true, Bool.not_false, Bool.or_true, Bool.or_false, Bool.false_or, Bool.and_true, Bool.true_and, Bool.and_false, Bool.or_not_self, Bool.not_not, b_beq_t, b_beq_f, Bool.cond_self, Bool.cond_false_right, beq_self_eq_true, Try.vt3, Try.velem26, Try.velem33, Try.vfield36x0, wrap_i64_in, dec_t, hg, e1, wp, a, b]
            refine vdraw (by kernel_rfl) (by kernel_rfl) ?_
            simp (config := { maxSteps := 2000000 }) (disch := first | omega | assumption | (simp only [List.length_cons, List.length_nil, Nat.zero_add, Nat.reduceAdd]; done) | (simp only [IntKind.wrap_i64]; omega)) only [vop_move, vcallee_move, okKind_move, foot_move, vop_load, vcallee_load, okKind_load, vop_binOp, vcallee_binOp, okKind_binOp, foot_binOp, vop_fieldAddr, vcallee_fieldAddr, okKind_fieldAddr, foot_fieldAddr, vop_indexAddr, vcallee_indexAddr, okKind_indexAddr, foot_indexAddr, foot_load, ptrNo_ptr, ptrNo_ip, strip_pv, strip_ptr, strip_ip, optV_none, ev_tmp, put_some, at_mk, fits_some, ↓look_cons, ↓vlook_t, ↓vlook_f, guard_none, ↓vdr_nil, ↓onNormal_normal, load_ptr, load_ip, vld_one, vldp_one, blk_zero, blk_succ, faddr_ptr, vfap_some, faddr_ip, vfai_some, iaddr_sl, vias_some, bin_int, int_eql, okc_nil, okc_none, okc_other, evG_eq, ↓vdr_cons, ↓dr1_some, ↓dr2_none, ↓dr3_some, ↓code_cond, ↓vtest_bool, List.getElem?_cons_zero, List.length_cons, List.length_nil, List.cons_append, List.nil_append, List.drop_zero, Option.map_some, ↓reduceIte, reduceCtorEq, Nat.reduceAdd, Nat.reduceLT, Nat.reduceBEq, Int.reduceLT, Int.reduceAdd, Int.reduceBEq, Nat.zero_add, Nat.add_zero, true_and, Bool.true_and, Bool.cond_self, beq_self_eq_true, Try.vt3, Try.velem33, Try.vfield36x0, dec_t, hg, e1, wp, wc]
            refine vbr_split (fun hk => ?_) (fun hk => ?_) <;> simp only [decide_eq_true_eq, decide_eq_false_iff_not, Bool.or_eq_true, Bool.and_eq_true, Bool.or_eq_false_iff, Bool.and_eq_false_imp, Bool.not_eq_true', Bool.not_eq_false', beq_iff_eq, beq_eq_false_iff_ne, bne_iff_ne, bne_eq_false_iff_eq, ne_eq] at hk
            · have hf2 : firstOf (w.drop (j.j - 1)) x.w.kind = some v := by rw [hf1, if_pos (by simpa using hk)]
              simp (config := { maxSteps := 2000000 }) (disch := first | omega | assumption | (simp only [List.length_cons, List.length_nil, Nat.zero_add, Nat.reduceAdd]; done) | (simp only [IntKind.wrap_i64]; omega)) only [vop_move, vcallee_move, vop_assign, vcallee_assign, vop_load, vcallee_load, vop_store, vcallee_store, vop_binOp, vcallee_binOp, vop_indexAddr, vcallee_indexAddr, strip_pv, strip_ptr, strip_ip, strip_agg, optV_none, ev_tmp, ev_const, ofConst_int, put_some, put_none, at_mk, fits_some, fits_none, ↓look_cons, ↓vlook_t, ↓vlook_f, guard_none, ↓vrun_nil, ↓code_region, ↓onNormal_normal, ↓onBlock_normal, load_ip, vldp_agg, store_ptr, vst_agg, blk_zero, blk_succ, set_zero, set_succ, allOne_nil, allOne_cons, one_pv, iaddr_sl, vias_some, bin_int, int_sub, evG_eq, ↓vrun_cons, ↓run1_some, ↓run2_none, ↓run3_some, List.map_nil, V.splice, List.length_cons, List.length_nil, List.map_cons, List.map_nil, List.nil_append, List.append_nil, List.take_succ_cons, List.take_zero, List.take_nil, List.drop_succ_cons, List.drop_nil, Option.map_some, ↓reduceIte, Nat.reduceAdd, Nat.reduceLT, Nat.reduceBEq, Int.reduceLT, Int.reduceAdd, Int.reduceBEq, Nat.zero_add, true_and, and_self, Bool.true_and, Bool.and_self, cond_true, Bool.cond_self, beq_self_eq_true, Nat.le_refl, Try.velem33, Try.vt36, wrap_i64_in, dec_t, int_beq_t, hg, e1, wp]
              refine ⟨⟨j.j - 1, by have := j.hj; omega⟩, by show j.j - 1 < j.j; omega, ?_⟩
              simp only [hs2, hf2, hj1, Option.getD_some]
              exact (by refine ⟨rfl, rfl, by simp, ?_, ?_, .inr ⟨?_, ?_⟩⟩ <;> (repeat' apply And.intro) <;> first | rfl | trivial | (intro _; first | rfl | exact qc_refs _ _ | exact bls_refs _ _ | exact ints_refs _ _))
            · have hf2 : firstOf (w.drop (j.j - 1)) x.w.kind = firstOf (w.drop j.j) x.w.kind := by rw [hf1, if_neg (by simpa using hk)]
              simp (config := { maxSteps := 2000000 }) (disch := first | omega | assumption | (simp only [List.length_cons, List.length_nil, Nat.zero_add, Nat.reduceAdd]; done) | (simp only [IntKind.wrap_i64]; omega)) only [vop_move, vcallee_move, vop_assign, vcallee_assign, vop_binOp, vcallee_binOp, strip_pv, optV_none, ev_tmp, ev_const, ofConst_int, put_some, at_mk, fits_some, ↓look_cons, ↓vlook_t, ↓vlook_f, guard_none, ↓vrun_nil, ↓code_skip, ↓code_region, ↓onNormal_normal, ↓onBlock_normal, bin_int, int_sub, evG_eq, ↓vrun_cons, ↓run1_some, ↓run2_none, ↓run3_some, Option.map_some, Nat.reduceLT, Nat.reduceBEq, Int.reduceLT, Int.reduceBEq, true_and, Bool.true_and, Bool.cond_self, beq_self_eq_true, wrap_i64_in, dec_t, int_beq_f]
              refine ⟨⟨j.j - 1, by have := j.hj; omega⟩, by show j.j - 1 < j.j; omega, ?_⟩
              simp only [hs2, hf2, hj1]
              exact (by refine ⟨rfl, rfl, by simp, ?_, ?_, .inr ⟨?_, ?_⟩⟩ <;> (repeat' apply And.intro) <;> first | rfl | trivial | (intro _; first | rfl | exact qc_refs _ _ | exact bls_refs _ _ | exact ints_refs _ _))
        · have hs2 : someOff i.q (w.drop (j.j - 1)) = someOff i.q (w.drop j.j) := by
            rw [hs1]; simp only [a, false_and, and_false, decide_false, Bool.false_or]
          simp (config := { maxSteps := 2000000 }) (disch := first | omega | assumption | (simp only [List.length_cons, List.length_nil, Nat.zero_add, Nat.reduceAdd]; done) | (simp only [IntKind.wrap_i64]; omega)) only [vop_move, vcallee_move, vop_assign, vcallee_assign, vop_pick, vcallee_pick, vop_load, vcallee_load, vop_binOp, vcallee_binOp, vop_fieldAddr, vcallee_fieldAddr, vop_indexAddr, vcallee_indexAddr, vpick_bool, strip_pv, strip_ptr, strip_tup, strip_opt, strip_vstr, vstr_true, optV_none, optV_some, pickV_bool, ev_tmp, ev_const, ofConst_int, ofConst_bool, put_some, at_mk, fits_some, ↓look_cons, ↓vlook_t, ↓vlook_f, guard_none, guard_some, vgof_bool, vgof_opt, ↓vrun_nil, ↓code_skip, ↓code_region, ↓code_draw, ↓code_seq, ↓code_block, ↓onNormal_normal, load_ip, vldp_one, faddr_ip, vfai_some, iaddr_sl, vias_some, iaddr_ptr, bin_int, int_sub, int_leq, int_geq, evG_eq, ↓vrun_cons, ↓run1_some, ↓run2_none, ↓run3_some, ↓run3_none, pickV_f, load_tup, bin_tupL, viap_none, List.getElem?_cons_zero, List.getElem?_cons_succ, List.length_cons, List.length_nil, List.drop_zero, Option.map_some, Option.map_none, Option.bind_some, ↓reduceIte, reduceCtorEq, Nat.reduceAdd, Nat.reduceLT, Nat.reduceBEq, Int.reduceLT, Int.reduceAdd, Int.reduceBEq, Nat.zero_add, decide_false, true_and, and_true, and_false, or_true, or_false, false_or, Bool.not_true, Bool.not_false, Bool.or_true, Bool.or_false, Bool.false_or, Bool.and_true, Bool.true_and, Bool.and_false, Bool.or_not_self, Bool.not_not, b_beq_t, b_beq_f, cond_false, Bool.cond_self, Bool.cond_false_right, beq_self_eq_true, Try.vt3, Try.velem26, Try.velem33, Try.vfield36x0, wrap_i64_in, dec_t, hg, e1, wp, a]
          refine vdraw (by kernel_rfl) (by kernel_rfl) ?_
          simp (config := { maxSteps := 2000000 }) (disch := first | omega | assumption | (simp only [List.length_cons, List.length_nil, Nat.zero_add, Nat.reduceAdd]; done) | (simp only [IntKind.wrap_i64]; omega)) only [vop_move, vcallee_move, okKind_move, foot_move, vop_load, vcallee_load, okKind_load, vop_binOp, vcallee_binOp, okKind_binOp, foot_binOp, vop_fieldAddr, vcallee_fieldAddr, okKind_fieldAddr, foot_fieldAddr, vop_indexAddr, vcallee_indexAddr, okKind_indexAddr, foot_indexAddr, foot_load, ptrNo_ptr, ptrNo_ip, strip_pv, strip_ptr, strip_ip, optV_none, ev_tmp, put_some, at_mk, fits_some, ↓look_cons, ↓vlook_t, ↓vlook_f, guard_none, ↓vdr_nil, ↓onNormal_normal, load_ptr, load_ip, vld_one, vldp_one, blk_zero, blk_succ, faddr_ptr, vfap_some, faddr_ip, vfai_some, iaddr_sl, vias_some, bin_int, int_eql, okc_nil, okc_none, okc_other, evG_eq, ↓vdr_cons, ↓dr1_some, ↓dr2_none, ↓dr3_some, ↓code_cond, ↓vtest_bool, List.getElem?_cons_zero, List.length_cons, List.length_nil, List.cons_append, List.nil_append, List.drop_zero, Option.map_some, ↓reduceIte, reduceCtorEq, Nat.reduceAdd, Nat.reduceLT, Nat.reduceBEq, Int.reduceLT, Int.reduceAdd, Int.reduceBEq, Nat.zero_add, Nat.add_zero, true_and, Bool.true_and, Bool.cond_self, beq_self_eq_true, Try.vt3, Try.velem33, Try.vfield36x0, dec_t, hg, e1, wp, wc]
          refine vbr_split (fun hk => ?_) (fun hk => ?_) <;> simp only [decide_eq_true_eq, decide_eq_false_iff_not, Bool.or_eq_true, Bool.and_eq_true, Bool.or_eq_false_iff, Bool.and_eq_false_imp, Bool.not_eq_true', Bool.not_eq_false', beq_iff_eq, beq_eq_false_iff_ne, bne_iff_ne, bne_eq_false_iff_eq, ne_eq] at hk
          · have hf2 : firstOf (w.drop (j.j - 1)) x.w.kind = some v := by rw [hf1, if_pos (by simpa using hk)]
            simp (config := { maxSteps := 2000000 }) (disch := first | omega | assumption | (simp only [List.length_cons, List.length_nil, Nat.zero_add, Nat.reduceAdd]; done) | (simp only [IntKind.wrap_i64]; omega)) only [vop_move, vcallee_move, vop_assign, vcallee_assign, vop_load, vcallee_load, vop_store, vcallee_store, vop_binOp, vcallee_binOp, vop_indexAddr, vcallee_indexAddr, strip_pv, strip_ptr, strip_ip, strip_agg, optV_none, ev_tmp, ev_const, ofConst_int, put_some, put_none, at_mk, fits_some, fits_none, ↓look_cons, ↓vlook_t, ↓vlook_f, guard_none, ↓vrun_nil, ↓code_region, ↓onNormal_normal, ↓onBlock_normal, load_ip, vldp_agg, store_ptr, vst_agg, blk_zero, blk_succ, set_zero, set_succ, allOne_nil, allOne_cons, one_pv, iaddr_sl, vias_some, bin_int, int_sub, evG_eq, ↓vrun_cons, ↓run1_some, ↓run2_none, ↓run3_some, List.map_nil, V.splice, List.length_cons, List.length_nil, List.map_cons, List.map_nil, List.nil_append, List.append_nil, List.take_succ_cons, List.take_zero, List.take_nil, List.drop_succ_cons, List.drop_nil, Option.map_some, ↓reduceIte, Nat.reduceAdd, Nat.reduceLT, Nat.reduceBEq, Int.reduceLT, Int.reduceAdd, Int.reduceBEq, Nat.zero_add, true_and, and_self, Bool.true_and, Bool.and_self, cond_true, Bool.cond_self, beq_self_eq_true, Nat.le_refl, Try.velem33, Try.vt36, wrap_i64_in, dec_t, int_beq_t, hg, e1, wp]
            refine ⟨⟨j.j - 1, by have := j.hj; omega⟩, by show j.j - 1 < j.j; omega, ?_⟩
            simp only [hs2, hf2, hj1, Option.getD_some]
            exact (by refine ⟨rfl, rfl, by simp, ?_, ?_, .inr ⟨?_, ?_⟩⟩ <;> (repeat' apply And.intro) <;> first | rfl | trivial | (intro _; first | rfl | exact qc_refs _ _ | exact bls_refs _ _ | exact ints_refs _ _))
          · have hf2 : firstOf (w.drop (j.j - 1)) x.w.kind = firstOf (w.drop j.j) x.w.kind := by rw [hf1, if_neg (by simpa using hk)]
            simp (config := { maxSteps := 2000000 }) (disch := first | omega | assumption | (simp only [List.length_cons, List.length_nil, Nat.zero_add, Nat.reduceAdd]; done) | (simp only [IntKind.wrap_i64]; omega)) only [vop_move, vcallee_move, vop_assign, vcallee_assign, vop_binOp, vcallee_binOp, strip_pv, optV_none, ev_tmp, ev_const, ofConst_int, put_some, at_mk, fits_some, ↓look_cons, ↓vlook_t, ↓vlook_f, guard_none, ↓vrun_nil, ↓code_skip, ↓code_region, ↓onNormal_normal, ↓onBlock_normal, bin_int, int_sub, evG_eq, ↓vrun_cons, ↓run1_some, ↓run2_none, ↓run3_some, Option.map_some, Nat.reduceLT, Nat.reduceBEq, Int.reduceLT, Int.reduceBEq, true_and, Bool.true_and, Bool.cond_self, beq_self_eq_true, wrap_i64_in, dec_t, int_beq_f]
            refine ⟨⟨j.j - 1, by have := j.hj; omega⟩, by show j.j - 1 < j.j; omega, ?_⟩
            simp only [hs2, hf2, hj1]
            exact (by refine ⟨rfl, rfl, by simp, ?_, ?_, .inr ⟨?_, ?_⟩⟩ <;> (repeat' apply And.intro) <;> first | rfl | trivial | (intro _; first | rfl | exact qc_refs _ _ | exact bls_refs _ _ | exact ints_refs _ _))
      · have hj0 : j.j = 0 := by omega
        rw [hj0, List.drop_zero]
        cases hs : someOff i.q w with
        | false =>
          rw [hs] at hok
          obtain ⟨hq, hw0⟩ := h1 hs
          simp (config := { maxSteps := 2000000 }) (disch := first | omega | assumption | (simp only [List.length_cons, List.length_nil, Nat.zero_add, Nat.reduceAdd]; done) | (simp only [IntKind.wrap_i64]; omega)) only [vop_move, vcallee_move, vop_assign, vcallee_assign, vop_pick, vcallee_pick, vop_build, vcallee_build, vop_load, vcallee_load, vop_store, vcallee_store, vop_binOp, vcallee_binOp, vop_unOp, vcallee_unOp, vpick_bool, strip_pv, strip_ptr, strip_agg, strip_opt, vstr_true, vstr_false, optV_none, optV_some, pickV_bool, ev_tmp, ev_const, ofConst_int, ofConst_bool, put_some, put_none, at_mk, fits_some, fits_none, ↓look_cons, ↓vlook_t, ↓vlook_f, guard_none, guard_some, vgof_bool, vgof_opt, ↓vrun_nil, ↓code_skip, ↓code_region, ↓code_seq, ↓code_exit, ↓onNormal_normal, ↓onNormal_exit, ↓onBlock_normal, ↓onBlock_exit, load_ptr, vld_agg, store_ptr, vst_agg, blk_zero, blk_succ, set_zero, set_succ, allOne_nil, allOne_cons, one_pv, bin_int, int_add, int_neq, un_not, parts_nil, evG_eq, ↓vrun_cons, ↓run1_some, ↓run2_none, ↓run3_some, ↓code_cond, ↓vtest_bool, ↓vbr_false, bin_bool, vbb_neq, bin_agg, vba_neq, vbuild, vfill, V.splice, List.getElem?_cons_zero, List.getElem?_cons_succ, List.length_cons, List.length_nil, List.nil_append, List.append_nil, List.take_succ_cons, List.take_zero, List.take_nil, List.drop_zero, Option.map_some, Option.bind_some, ↓reduceIte, Nat.reduceAdd, Nat.reduceLT, Nat.reduceBEq, Int.reduceLT, Int.reduceAdd, Int.reduceBEq, Nat.zero_add, true_and, and_self, and_false, or_true, or_false, or_self, Bool.not_true, Bool.not_false, Bool.or_true, Bool.or_false, Bool.true_and, Bool.and_false, Bool.or_self, Bool.and_self, b_beq_t, cond_false, Bool.cond_self, beq_self_eq_true, Nat.le_refl, Try.vkind4, Try.vt29, Try.leaves29, Try.eqg29, Try.vt36, Try.vplaces36, Try.vzero36, Try.leaves36, Try.eqg36, wrap_i64_in, dec_t, dec_f, int_bne_f, qc_len, qc_one, qc_take10, he, hok, hq, hw0, wc, W0, qc_eq, qeq_self, allEq_w, qc_drop10]
          exact ⟨⟨i.n + 1, by omega, c', i.q, i.hq, i.hv⟩, by show 20 - (i.n + 1) < 20 - i.n; omega, (by refine ⟨rfl, rfl, by simp, ?_, ?_, .inr ⟨?_, ?_⟩⟩ <;> (repeat' apply And.intro) <;> first | rfl | trivial | (intro _; first | rfl | exact qc_refs _ _ | exact bls_refs _ _ | exact ints_refs _ _))⟩
        | true =>
          rw [hs] at hok
          have h2 := h2 hs
          simp (config := { maxSteps := 2000000 }) (disch := first | omega | assumption | (simp only [List.length_cons, List.length_nil, Nat.zero_add, Nat.reduceAdd]; done) | (simp only [IntKind.wrap_i64]; omega)) only [vop_move, vcallee_move, vop_assign, vcallee_assign, vop_pick, vcallee_pick, vop_build, vcallee_build, vop_load, vcallee_load, vop_store, vcallee_store, vop_binOp, vcallee_binOp, vop_unOp, vcallee_unOp, vpick_bool, strip_pv, strip_ptr, strip_agg, strip_opt, vstr_true, vstr_false, optV_none, optV_some, pickV_bool, ev_tmp, ev_const, ofConst_int, ofConst_bool, put_some, put_none, at_mk, fits_some, fits_none, ↓look_cons, ↓vlook_t, ↓vlook_f, guard_none, guard_some, vgof_bool, vgof_opt, ↓vrun_nil, ↓code_skip, ↓code_region, ↓code_seq, ↓code_exit, ↓onNormal_normal, ↓onNormal_exit, ↓onBlock_normal, ↓onBlock_exit, load_ptr, vld_agg, store_ptr, vst_agg, blk_zero, blk_succ, set_zero, set_succ, allOne_nil, allOne_cons, one_pv, bin_int, int_add, int_neq, un_not, parts_nil, evG_eq, ↓vrun_cons, ↓run1_some, ↓run2_none, ↓run3_some, ↓code_cond, ↓vtest_bool, ↓vbr_false, bin_bool, vbb_neq, bin_agg, vba_neq, vbuild, vfill, V.splice, List.getElem?_cons_zero, List.getElem?_cons_succ, List.length_cons, List.length_nil, List.nil_append, List.append_nil, List.take_succ_cons, List.take_zero, List.take_nil, List.drop_zero, Option.map_some, Option.bind_some, Option.getD_some, ↓reduceIte, Nat.reduceAdd, Nat.reduceLT, Nat.reduceBEq, Int.reduceLT, Int.reduceAdd, Int.reduceBEq, Nat.zero_add, true_and, and_self, false_and, and_false, or_true, or_false, or_self, Bool.not_true, Bool.not_false, Bool.or_true, Bool.or_false, Bool.true_and, Bool.and_false, Bool.false_and, Bool.or_self, Bool.and_self, Bool.not_not, b_beq_t, b_beq_f, cond_true, cond_false, Bool.cond_self, Bool.cond_true_left, beq_self_eq_true, Nat.le_refl, Try.vkind4, Try.vt29, Try.leaves29, Try.eqg29, Try.vt36, Try.vplaces36, Try.vzero36, Try.leaves36, Try.eqg36, wrap_i64_in, dec_t, dec_f, int_bne_f, qc_len, qc_one, qc_take10, he, hok, h2, qc_eq, wc, allEq_w, qc_drop10]
          exact ⟨⟨i.n + 1, by omega, c', x.q, h4.trans i.hq, h3⟩, by show 20 - (i.n + 1) < 20 - i.n; omega, (by refine ⟨rfl, rfl, by simp, ?_, ?_, .inr ⟨?_, ?_⟩⟩ <;> (repeat' apply And.intro) <;> first | rfl | trivial | (intro _; first | rfl | exact qc_refs _ _ | exact bls_refs _ _ | exact ints_refs _ _))⟩
    · simp (config := { maxSteps := 2000000 }) (disch := first | omega | assumption | (simp only [List.length_cons, List.length_nil, Nat.zero_add, Nat.reduceAdd]; done) | (simp only [IntKind.wrap_i64]; omega)) only [vop_assign, vcallee_assign, strip_pv, optV_none, ev_const, ofConst_bool, put_some, at_mk, fits_some, ↓look_cons, ↓vlook_t, guard_none, ↓vrun_nil, ↓code_region, ↓code_seq, ↓code_exit, ↓code_ret, ↓onNormal_normal, ↓onNormal_exit, ↓onBlock_exit, frz_pv, frzHeap_zero, res_one, vres_tmp, evG_eq, ↓vrun_cons, ↓run1_some, ↓run2_none, ↓run3_some, ↓vpost_ret, vfin_some, vfin2_some, at_hp, ↓reduceIte, Nat.reduceLT, Int.reduceLT, and_self, Bool.and_self, Bool.cond_self, beq_self_eq_true, dec_t, dec_f, Ret, DV.nums]
end Go.Proofs.Ytbbomgodoodcjaa

namespace Go.Proofs.Ytbbomgodoodcjaa
open Go.V Go
set_option maxRecDepth 100000
set_option pp.deepTerms true
set_option pp.deepTerms.threshold 100000
set_option pp.maxSteps 1000000
set_option pp.proofs false
set_option linter.unusedSimpArgs false

structure I4 (s : List Int) where
  n : Nat
  hn : n ≤ 12
  q : Q
  hq : q.sh = s
  hv : valid q = true

theorem ints_get' (s : List Int) (i : Nat) (h : i < s.length) : (ints s)[i]? = some (.int .i64 (s.getD i 0)) := by
  rw [ints_get, List.getElem?_eq_getElem h, List.getD_eq_getElem?_getD, List.getElem?_eq_getElem h]; rfl

theorem alone_next (q : Q) (k a b : Int) (hk : 1 ≤ k ∧ k ≤ 8) (hv : valid q = true) : (next q [⟨k, a⟩, ⟨k, b⟩]).e = 0 ∧ (next q [⟨k, a⟩, ⟨k, b⟩]).ok = decide (0 < shareAt q k) ∧ ((next q [⟨k, a⟩, ⟨k, b⟩]).ok = true → (next q [⟨k, a⟩, ⟨k, b⟩]).w.sub = a) ∧ valid (next q [⟨k, a⟩, ⟨k, b⟩]).q = true ∧ (next q [⟨k, a⟩, ⟨k, b⟩]).q.sh = q.sh := by
  obtain ⟨h1, h2, h3, h4, h5, h6⟩ := next_spec q [⟨k, a⟩, ⟨k, b⟩] hv
  have hs : someOff q [⟨k, a⟩, ⟨k, b⟩] = decide (0 < shareAt q k) := by simp [someOff, hk]
  rw [hs] at h2 h4
  refine ⟨h1, h2, fun ho => ?_, h5, h6⟩
  rw [h2] at ho
  have := h4 ho
  rw [firstOf, List.find?_cons] at this
  by_cases e : k = (next q [⟨k, a⟩, ⟨k, b⟩]).w.kind
  · rw [show (k == (next q [⟨k, a⟩, ⟨k, b⟩]).w.kind) = true by simpa using e] at this
    simp only [Option.some.injEq] at this
    rw [← this]
  · rw [show (k == (next q [⟨k, a⟩, ⟨k, b⟩]).w.kind) = false by simpa using e] at this
    rw [List.find?_cons, show (k == (next q [⟨k, a⟩, ⟨k, b⟩]).w.kind) = false by simpa using e] at this
    simp at this

theorem d_flat (o : Out) : o.d.flat = true := by
  simp [Out.d, DV.flat, DV.flat.go, qc_flat, wc]
theorem frz_two {hp : Heap} (q : Q) {d d' : DV} (h : frz 0 hp d = some d') : allSome (([.agg (qc q), d] : List DV).map (frz 0 hp)) = some [.agg (qc q), d'] := by
  have e : frz 0 hp (.agg (qc q)) = some (.agg (qc q)) := by
    show (allSome ((qc q).map (frz1 0 hp))).map DV.agg = _
    rw [qc_frz]; rfl
  rw [List.map_cons, List.map_cons, List.map_nil, e, h]; rfl

theorem alone_v (l : List UInt8) (hl : l.length ≤ 9223372036854775807) (kd : Int) (hkd : 0 ≤ kd ∧ kd ≤ 255) : VCalls Try.prog 4 [.pv (.sl (sl8 l)), .int .u8 kd] [] (Ret (.bool true)) := by
  refine vcalls_drop (fn := Try.f4) Try.func4 rfl (by kernel_rfl) (by simp [Try.f4]) ?_
  simp (config := { maxSteps := 2000000 }) (disch := first | omega | assumption | (simp only [List.length_cons, List.length_nil, Nat.zero_add, Nat.reduceAdd]; done) | (simp only [IntKind.wrap_i64]; omega)) only [vop_assign, vcallee_assign, vcallee_value, vcal_fn, strip_pv, strip_fn, optV_none, ev_const, ev_func, ofConst_bool, put_some, at_mk, fits_some, guard_none, ↓vrun_nil, ↓code_region, ↓code_seq, ↓onNormal_normal, enum_nil, enum_cons, evG_eq, ↓vrun_cons, ↓run1_some, ↓run2_none, ↓run2_some, ↓run3_some, ↓vcg_none, List.map_nil, List.toList_toArray, List.length_nil, List.map_nil, List.append_nil, Nat.reduceAdd, Nat.reduceLT, Int.reduceLT, Int.reduceAdd, Nat.zero_add, true_and, Bool.true_and, Bool.cond_self, dec_t, Try.f4]
  refine vc_pure awake_v rfl ?_
  simp (config := { maxSteps := 2000000 }) (disch := first | omega | assumption | (simp only [List.length_cons, List.length_nil, Nat.zero_add, Nat.reduceAdd]; done) | (simp only [IntKind.wrap_i64]; omega)) only [vop_move, vcallee_move, vop_unOp, vcallee_unOp, vcallee_value, vcal_fn, strip_pv, strip_fn, optV_none, ev_tmp, ev_const, ev_func, ofConst_int, put_some, at_mk, fits_some, ↓look_cons, ↓vlook_t, ↓vlook_f, guard_none, ↓vrun_nil, ↓code_skip, ↓code_region, ↓code_seq, ↓onNormal_normal, un_not, evG_eq, ↓vrun_cons, ↓run1_some, ↓run2_none, ↓run2_some, ↓run3_some, ↓runK_eq, ↓vcg_none, ↓code_cond, ↓vtest_bool, ↓vbr_false, List.map_nil, List.map_cons, List.map_nil, List.nil_append, List.append_nil, Option.map_some, Nat.reduceLT, Nat.reduceBEq, Int.reduceLT, Int.reduceBEq, true_and, Bool.not_true, Bool.true_and, Bool.cond_self, beq_self_eq_true, dec_t]
  refine vc_draw l 200 (by omega) (by omega) hl ?_
  have ht : kd.tmod 8 = kd % 8 := Int.tmod_eq_emod_of_nonneg (by omega)
  simp (config := { maxSteps := 2000000 }) (disch := first | omega | assumption | (simp only [List.length_cons, List.length_nil, Nat.zero_add, Nat.reduceAdd]; done) | (simp only [IntKind.wrap_i64]; omega)) only [vop_move, vcallee_move, vop_assign, vcallee_assign, vop_binOp, vcallee_binOp, vop_convert, vcallee_convert, vcallee_value, vcal_fn, strip_pv, strip_ptr, strip_fn, optV_none, ev_tmp, ev_const, ev_func, ofConst_int, put_some, at_mk, fits_some, ↓look_cons, ↓vlook_t, ↓vlook_f, guard_none, ↓vrun_nil, ↓code_region, ↓code_seq, ↓onNormal_normal, bin_int, int_add, int_rem, conv_int, vci_int, evG_eq, ↓vrun_cons, ↓run1_some, ↓run2_none, ↓run2_some, ↓run3_some, ↓runK_eq, ↓vcg_none, List.map_nil, List.length_nil, List.map_cons, List.map_nil, List.nil_append, List.append_nil, Option.map_some, Nat.reduceLT, Nat.reduceBEq, Int.reduceLT, Int.reduceBEq, true_and, Bool.true_and, Bool.cond_self, beq_self_eq_true, Try.vkind3, Try.vkind5, wrap_i64_in, dec_t, ht]
  refine vc_codesR (k := 0) (c := cnew l 200 (by omega)) rfl (shares_v _) rfl ?_
  rintro _ c ⟨s, hs, rfl⟩
  simp (config := { maxSteps := 2000000 }) (disch := first | omega | assumption | (simp only [List.length_cons, List.length_nil, Nat.zero_add, Nat.reduceAdd]; done) | (simp only [IntKind.wrap_i64]; omega)) only [vop_alloc, vcallee_alloc, vop_load, vcallee_load, vop_store, vcallee_store, vcallee_value, vcal_fn, strip_ptr, strip_agg, strip_fn, optV_none, ev_tmp, ev_func, put_some, put_none, at_mk, fits_some, fits_none, ↓look_cons, ↓vlook_t, ↓vlook_f, guard_none, ↓vrun_nil, ↓code_region, ↓code_seq, ↓onNormal_normal, load_ptr, vld_agg, store_ptr, vst_agg, blk_zero, blk_succ, set_zero, set_succ, alloc_eq, val1_some, allOne_nil, allOne_cons, one_pv, evG_eq, ↓vrun_cons, ↓run1_some, ↓run2_none, ↓run2_some, ↓run3_some, ↓runK_eq, ↓vcg_none, List.map_nil, V.splice, List.length_cons, List.length_nil, List.map_cons, List.map_nil, List.cons_append, List.nil_append, List.append_nil, List.take_zero, List.drop_succ_cons, List.drop_zero, List.drop_nil, List.set_cons_zero, Option.map_some, ↓reduceIte, Nat.reduceAdd, Nat.reduceLT, Nat.reduceBEq, Int.reduceLT, Int.reduceAdd, Int.reduceBEq, Nat.zero_add, true_and, and_self, Bool.true_and, Bool.and_self, cond_true, Bool.cond_self, beq_self_eq_true, Nat.le_refl, Try.vt26, Try.vzero26, dec_t, ints_len, ints_one, hs, ints_take8 s hs]
  refine vc_pure (new_v s hs) (by simp only [DV.nums, DV.nums.go, Bool.and_self, ints_nums]) ?_
  simp (config := { maxSteps := 2000000 }) (disch := first | omega | assumption | (simp only [List.length_cons, List.length_nil, Nat.zero_add, Nat.reduceAdd]; done) | (simp only [IntKind.wrap_i64]; omega)) only [vop_move, vcallee_move, vop_assign, vcallee_assign, vop_alloc, vcallee_alloc, vop_store, vcallee_store, vop_binOp, vcallee_binOp, vop_extract, vcallee_extract, strip_pv, strip_ptr, strip_agg, strip_tup, optV_none, ev_tmp, ev_const, ofConst_int, put_some, put_none, at_mk, fits_some, fits_none, ↓look_cons, ↓vlook_t, ↓vlook_f, guard_none, ↓vrun_nil, ↓code_region, ↓code_seq, ↓onNormal_normal, store_ptr, vst_agg, blk_zero, blk_succ, set_zero, set_succ, alloc_eq, val1_some, allOne_nil, allOne_cons, one_pv, bin_int, int_neq, ext_tup, evG_eq, ↓vrun_cons, ↓run1_some, ↓run2_none, ↓run3_some, ↓runK_eq, ↓code_cond, ↓vtest_bool, V.splice, List.getElem?_cons_zero, List.getElem?_cons_succ, List.length_cons, List.length_nil, List.cons_append, List.nil_append, List.append_nil, List.take_zero, List.drop_succ_cons, List.drop_nil, Option.map_some, ↓reduceIte, Nat.reduceAdd, Nat.reduceLT, Nat.reduceBEq, Int.reduceLT, Int.reduceAdd, Int.reduceBEq, Nat.zero_add, true_and, and_self, Bool.true_and, Bool.and_self, cond_true, Bool.cond_self, beq_self_eq_true, Nat.le_refl, Try.vt29, Try.vzero29, dec_t, qc_len, qc_one]
  refine vbr_split (fun hv => ?_) (fun hv => ?_) <;> simp only [decide_eq_true_eq, decide_eq_false_iff_not, Bool.or_eq_true, Bool.and_eq_true, Bool.or_eq_false_iff, Bool.and_eq_false_imp, Bool.not_eq_true', Bool.not_eq_false', beq_iff_eq, beq_eq_false_iff_ne, bne_iff_ne, bne_eq_false_iff_eq, ne_eq] at hv
  · simp (config := { maxSteps := 2000000 }) (disch := first | omega | assumption | (simp only [List.length_cons, List.length_nil, Nat.zero_add, Nat.reduceAdd]; done) | (simp only [IntKind.wrap_i64]; omega)) only [vop_assign, vcallee_assign, strip_pv, optV_none, ev_const, ofConst_bool, put_some, at_mk, fits_some, ↓look_cons, ↓vlook_t, guard_none, ↓vrun_nil, ↓code_region, ↓code_seq, ↓code_ret, ↓onNormal_normal, ↓onNormal_ret, frz_pv, frzHeap_zero, res_one, vres_tmp, evG_eq, ↓vrun_cons, ↓run1_some, ↓run2_none, ↓run3_some, ↓vpost_ret, vfin_some, vfin2_some, at_hp, Nat.reduceLT, Int.reduceLT, and_self, Bool.and_self, Bool.cond_self, beq_self_eq_true, dec_t, int_bne_t, Ret, DV.nums]
  · have hv' : valid (newQ s hs) = true := by
      by_cases h : valid (newQ s hs) = true
      · exact h
      · rw [if_neg h] at hv; omega
    simp (config := { maxSteps := 2000000 }) (disch := first | omega | assumption | (simp only [List.length_cons, List.length_nil, Nat.zero_add, Nat.reduceAdd]; done) | (simp only [IntKind.wrap_i64]; omega)) only [vop_assign, vcallee_assign, strip_pv, optV_none, ev_const, ofConst_int, put_some, at_mk, fits_some, guard_none, ↓vrun_nil, ↓code_skip, ↓code_region, ↓code_seq, ↓code_block, ↓code_loop, ↓onNormal_normal, evG_eq, ↓vrun_cons, ↓run1_some, ↓run2_none, ↓run3_some, ↓reduceIte, Nat.reduceLT, Int.reduceLT, true_and, Bool.true_and, Bool.cond_self, dec_t, int_bne_f, hv']
    refine vloop (fun i : I4 s => ⟨79, 0, [(10, .int .i64 i.n), (8, .ptr 2 0), (7, .ptr 1 0), (6, .int .i64 (1 + kd % 8)), (4, .bool false)], [cb c, ⟨26, true, ints s⟩, ⟨29, true, qc i.q⟩]⟩) (fun i => 12 - i.n) ⟨0, by omega, newQ s hs, rfl, hv'⟩ (by refine ⟨rfl, rfl, by simp, ?_, ?_, .inl rfl⟩ <;> (repeat' apply And.intro) <;> first | rfl | trivial) ?_
    intro i
    have hi := i.hn
    simp (config := { maxSteps := 2000000 }) (disch := first | omega | assumption | (simp only [List.length_cons, List.length_nil, Nat.zero_add, Nat.reduceAdd]; done) | (simp only [IntKind.wrap_i64]; omega)) only [vop_move, vcallee_move, vop_binOp, vcallee_binOp, strip_pv, optV_none, ev_tmp, ev_const, ofConst_int, put_some, at_mk, fits_some, ↓look_cons, ↓vlook_t, guard_none, ↓vrun_nil, ↓code_region, ↓code_seq, ↓onNormal_normal, bin_int, int_lss, evG_eq, ↓vrun_cons, ↓run1_some, ↓run2_none, ↓run3_some, ↓code_cond, ↓vtest_bool, Option.map_some, Nat.reduceLT, Int.reduceLT, true_and, Bool.true_and, Bool.cond_self, beq_self_eq_true, dec_t]
    refine vbr_split (fun hc => ?_) (fun hc => ?_) <;> simp only [decide_eq_true_eq, decide_eq_false_iff_not, Bool.or_eq_true, Bool.and_eq_true, Bool.or_eq_false_iff, Bool.and_eq_false_imp, Bool.not_eq_true', Bool.not_eq_false', beq_iff_eq, beq_eq_false_iff_ne, bne_iff_ne, bne_eq_false_iff_eq, ne_eq] at hc
    · simp (config := { maxSteps := 2000000 }) (disch := first | omega | assumption | (simp only [List.length_cons, List.length_nil, Nat.zero_add, Nat.reduceAdd]; done) | (simp only [IntKind.wrap_i64]; omega)) only [vop_move, vcallee_move, vop_assign, vcallee_assign, vop_build, vcallee_build, vop_buildSlice, vcallee_buildSlice, vop_load, vcallee_load, vop_binOp, vcallee_binOp, vcallee_value, vcal_fn, strip_pv, strip_ptr, strip_own, strip_agg, strip_fn, optV_none, ev_tmp, ev_const, ev_func, ofConst_int, put_some, at_mk, fits_some, ↓look_cons, ↓vlook_t, ↓vlook_f, guard_none, ↓vrun_nil, ↓code_skip, ↓code_region, ↓code_seq, ↓code_block, ↓onNormal_normal, load_ptr, vld_agg, blk_zero, blk_succ, allOne_nil, allOne_cons, one_pv, bin_int, int_add, parts_nil, parts_cons, evG_eq, ↓vrun_cons, ↓run1_some, ↓run2_none, ↓run2_some, ↓run3_some, ↓vcg_none, List.map_nil, dcells, vbuild, vfill, vbuildSlice, V.mk, V.splice, List.getElem?_cons_zero, List.getElem?_cons_succ, List.length_cons, List.length_nil, List.map_cons, List.map_nil, List.cons_append, List.nil_append, List.append_nil, List.take_succ_cons, List.take_zero, List.drop_succ_cons, List.drop_zero, List.drop_nil, Option.map_some, ↓reduceIte, Nat.reduceAdd, Nat.reduceLT, Nat.reduceLeDiff, Nat.reduceMul, Nat.reduceBEq, Int.reduceLT, Int.reduceAdd, Int.reduceMul, Int.reduceBEq, Nat.zero_add, Nat.zero_mul, Nat.one_mul, true_and, and_self, Bool.true_and, Bool.and_self, cond_true, Bool.cond_self, beq_self_eq_true, Nat.le_refl, Try.vt29, Try.velem33, Try.vplaces36, Try.vzero36, wrap_i64_in, dec_t, qc_len, qc_take10]
      obtain ⟨h1, h2, h3, h4, h5⟩ := alone_next i.q (1 + kd % 8) i.n (i.n + 1) (by omega) i.hv
      generalize hk0 : 1 + kd % 8 = k at *
      have hkb : 1 ≤ k ∧ k ≤ 8 := by omega
      have hsh : shareAt i.q k = s.getD (k - 1).toNat 0 := by rw [shareAt, i.hq]
      have hg := ints_get' s (k - 1).toNat (by omega)
      rw [hsh] at h2
      refine vc_lend (args0 := [.agg (qc i.q), .pv (.sl (sw [⟨k, i.n⟩, ⟨k, i.n + 1⟩]))]) (next_v' _ _ (by simp)) (frz_two _ rfl) (d_flat _) ?_
      generalize hx : next i.q [⟨k, i.n⟩, ⟨k, i.n + 1⟩] = x at *
      simp (config := { maxSteps := 2000000 }) (disch := first | omega | assumption | (simp only [List.length_cons, List.length_nil, Nat.zero_add, Nat.reduceAdd]; done) | (simp only [IntKind.wrap_i64]; omega)) only [vop_move, vcallee_move, vop_assign, vcallee_assign, vop_pick, vcallee_pick, vop_alloc, vcallee_alloc, vop_load, vcallee_load, vop_store, vcallee_store, vop_binOp, vcallee_binOp, vop_fieldAddr, vcallee_fieldAddr, vop_indexAddr, vcallee_indexAddr, vop_extract, vcallee_extract, vcallee_value, vcal_fn, vpick_bool, strip_pv, strip_ptr, strip_agg, strip_tup, strip_fn, strip_opt, strip_vstr, vstr_true, optV_none, optV_some, pickV_bool, ev_tmp, ev_const, ev_func, ofConst_int, ofConst_bool, put_some, put_none, at_mk, fits_some, fits_none, ↓look_cons, ↓vlook_t, ↓vlook_f, guard_none, guard_some, vgof_bool, vgof_opt, ↓vrun_nil, ↓code_region, ↓code_seq, ↓onNormal_normal, load_ptr, vld_one, vld_agg, store_ptr, vst_agg, blk_zero, blk_succ, set_zero, set_succ, alloc_eq, val1_some, allOne_nil, allOne_cons, one_pv, faddr_ptr, vfap_some, iaddr_ptr, viap_some, bin_int, int_sub, int_neq, int_gtr, ext_tup, evG_eq, ↓vrun_cons, ↓run1_some, ↓run2_none, ↓run2_some, ↓run3_some, ↓runK_eq, ↓vcg_some, at_hp, bin_bool, vbb_neq, List.map_nil, V.splice, List.getElem?_cons_zero, List.getElem?_cons_succ, List.length_cons, List.length_nil, List.map_cons, List.map_nil, List.cons_append, List.nil_append, List.append_nil, List.take_zero, List.drop_succ_cons, List.drop_zero, List.drop_nil, Option.map_some, Option.bind_some, ↓reduceIte, reduceCtorEq, Nat.reduceAdd, Nat.reduceLT, Nat.reduceBEq, Int.reduceLT, Int.reduceAdd, Int.reduceBEq, Nat.zero_add, Nat.mul_one, true_and, and_self, or_true, false_or, Bool.not_true, Bool.not_false, Bool.or_true, Bool.false_or, Bool.true_and, Bool.and_self, Bool.not_or_self, Bool.or_not_self, Bool.not_not, b_beq_t, b_beq_f, cond_true, cond_false, Bool.cond_self, Bool.cond_false_right, beq_self_eq_true, Nat.le_refl, Try.vt3, Try.vkind4, Try.velem26, Try.vt29, Try.vzero29, Try.vt36, Try.vfield36x1, Try.vzero36, wrap_i64_in, dec_t, int_bne_f, qc_len, qc_one, qc_take10, Out.d, h1, h2, hg, wc]
      have hz : (decide (0 < s.getD (k - 1).toNat 0) && x.w.sub != ↑i.n) = false := by
        cases hd : decide (0 < s.getD (k - 1).toNat 0) with
        | false => rfl
        | true => rw [hd] at h2; rw [h3 h2]; simp
      rw [hz]
      refine vcg_pure (fun _ => valid_v x.q) (by simp only [DV.nums, DV.nums.go, Bool.and_self, qc_nums]) ?_
      rw [h4]
      simp (config := { maxSteps := 2000000 }) (disch := first | omega | assumption | (simp only [List.length_cons, List.length_nil, Nat.zero_add, Nat.reduceAdd]; done) | (simp only [IntKind.wrap_i64]; omega)) only [vop_move, vcallee_move, vop_assign, vcallee_assign, vop_pick, vcallee_pick, vop_load, vcallee_load, vop_store, vcallee_store, vop_binOp, vcallee_binOp, vop_unOp, vcallee_unOp, vpick_bool, strip_pv, strip_ptr, strip_agg, strip_opt, vstr_true, optV_none, optV_some, pickV_bool, ev_tmp, ev_const, ofConst_int, ofConst_bool, put_some, put_none, at_mk, fits_some, fits_none, ↓look_cons, ↓vlook_t, ↓vlook_f, guard_none, guard_some, vgof_bool, ↓vrun_nil, ↓code_skip, ↓code_region, ↓onNormal_normal, ↓onBlock_normal, load_ptr, vld_agg, store_ptr, vst_agg, blk_zero, blk_succ, set_zero, set_succ, bin_int, int_add, un_not, evG_eq, ↓vrun_cons, ↓run1_some, ↓run2_none, ↓run3_some, ↓runK_eq, ↓code_cond, ↓vtest_bool, ↓vbr_false, V.splice, List.getElem?_cons_zero, List.getElem?_cons_succ, List.nil_append, List.append_nil, List.take_zero, List.drop_zero, Option.map_some, Option.bind_some, ↓reduceIte, Nat.reduceLT, Nat.reduceBEq, Int.reduceLT, Int.reduceBEq, Nat.zero_add, true_and, and_self, or_true, Bool.not_true, Bool.not_false, Bool.or_true, Bool.true_and, Bool.and_self, cond_true, cond_false, Bool.cond_self, beq_self_eq_true, Nat.le_refl, Try.vt29, wrap_i64_in, dec_t, qc_len, qc_one, qc_take10, qc_drop10]
      exact ⟨⟨i.n + 1, by omega, x.q, h5.trans i.hq, h4⟩, by show 12 - (i.n + 1) < 12 - i.n; omega, (by refine ⟨rfl, rfl, by simp, ?_, ?_, .inr ⟨?_, ?_⟩⟩ <;> (repeat' apply And.intro) <;> first | rfl | trivial | (intro _; first | rfl | exact qc_refs _ _ | exact bls_refs _ _ | exact ints_refs _ _))⟩
    · simp (config := { maxSteps := 2000000 }) (disch := first | omega | assumption | (simp only [List.length_cons, List.length_nil, Nat.zero_add, Nat.reduceAdd]; done) | (simp only [IntKind.wrap_i64]; omega)) only [vop_assign, vcallee_assign, strip_pv, optV_none, ev_const, ofConst_bool, put_some, at_mk, fits_some, ↓look_cons, ↓vlook_t, guard_none, ↓vrun_nil, ↓code_region, ↓code_seq, ↓code_exit, ↓code_ret, ↓onNormal_normal, ↓onNormal_exit, ↓onBlock_exit, frz_pv, frzHeap_zero, res_one, vres_tmp, evG_eq, ↓vrun_cons, ↓run1_some, ↓run2_none, ↓run3_some, ↓vpost_ret, vfin_some, vfin2_some, at_hp, ↓reduceIte, Nat.reduceLT, Int.reduceLT, and_self, Bool.and_self, Bool.cond_self, beq_self_eq_true, dec_t, dec_f, Ret, DV.nums]
end Go.Proofs.Ytbbomgodoodcjaa

namespace Go.Proofs.Ytbbomgodoodcjaa
open Go.V Go
set_option maxRecDepth 100000
set_option linter.unusedSimpArgs false

/-- Offers that their caller may append to. -/
def OEx : DV → Heap → Prop := fun r h' => ∃ c' : C, ∃ l : List W, l.length ≤ 8 ∧ (∀ x ∈ l, 0 ≤ x.kind ∧ x.kind ≤ 9) ∧ ((l = [] ∧ r = .pv (.slc []) ∧ h' = [cb c']) ∨ (r = .own 1 2 0 l.length ∧ h' = [cb c', ⟨36, true, wcs l⟩]))
set_option maxHeartbeats 1000000 in
theorem offersO_v (c : C) : VCalls Try.prog 12 [.ptr 0 0] [cb c] (OEx) := by
  refine vcalls_keep (fn := Try.f12) Try.func12 rfl (by kernel_rfl) (by simp [Try.f12]) ?_
  simp (config := { maxSteps := 2000000 }) (disch := first | omega | assumption | (simp only [List.length_cons, List.length_nil, Nat.zero_add, Nat.reduceAdd]; done) | (simp only [IntKind.wrap_i64]; omega)) only [vop_move, vcallee_move, vop_assign, vcallee_assign, vcallee_value, vcal_fn, strip_pv, strip_ptr, strip_fn, optV_none, ev_tmp, ev_const, ev_func, ofConst_int, ofConst_slice, put_some, at_mk, fits_some, ↓look_cons, ↓vlook_t, ↓vlook_f, guard_none, ↓vrun_nil, ↓code_region, ↓code_seq, ↓onNormal_normal, enum_nil, enum_cons, evG_eq, ↓vrun_cons, ↓run1_some, ↓run2_none, ↓run2_some, ↓run3_some, ↓vcg_none, List.map_nil, List.toList_toArray, List.length_cons, List.length_nil, List.map_cons, List.map_nil, List.nil_append, List.append_nil, Nat.reduceLT, Nat.reduceBEq, Int.reduceLT, Int.reduceBEq, Nat.zero_add, true_and, Bool.true_and, Bool.cond_self, beq_self_eq_true, dec_t, Try.f12]
  have h9 := nxt_lt c 9 (by omega)
  refine vc_codes (k := 0) (c := c) rfl (next_v c 9 (by omega)) rfl ?_
  simp (config := { maxSteps := 2000000 }) (disch := first | omega | assumption | (simp only [List.length_cons, List.length_nil, Nat.zero_add, Nat.reduceAdd]; done) | (simp only [IntKind.wrap_i64]; omega)) only [vop_assign, vcallee_assign, strip_pv, optV_none, ev_tmp, put_some, at_mk, fits_some, ↓look_cons, ↓vlook_t, guard_none, ↓vrun_nil, ↓code_block, ↓code_loop, ↓onNormal_normal, evG_eq, ↓vrun_cons, ↓run1_some, ↓run2_none, ↓run3_some, ↓runK_eq, List.set_cons_zero, Nat.reduceLT, Int.reduceLT, true_and, Bool.true_and, Bool.cond_self, beq_self_eq_true, dec_t]
  refine vloopW (fun i : I12 => ⟨20, 1, [(4, .int .i64 i.k), (3, wsd i.l), (2, .pv (.slc [])), (0, .ptr 0 0)], wh i.c i.l⟩) (fun i => i.k) ⟨c.nxt 9, by omega, c.adv 9, [], by simp; omega, by simp⟩ (.inl (by rw [wh, if_pos rfl]; exact (by refine ⟨rfl, rfl, by simp, ?_, ?_, .inl rfl⟩ <;> (repeat' apply And.intro) <;> first | rfl | trivial))) ?_
  intro i
  have hk := i.hk
  have hl := i.hl
  simp (config := { maxSteps := 2000000 }) (disch := first | omega | assumption | (simp only [List.length_cons, List.length_nil, Nat.zero_add, Nat.reduceAdd]; done) | (simp only [IntKind.wrap_i64]; omega)) only [vop_move, vcallee_move, vop_binOp, vcallee_binOp, strip_pv, optV_none, ev_tmp, ev_const, ofConst_int, put_some, at_mk, fits_some, ↓look_cons, ↓vlook_t, guard_none, ↓vrun_nil, ↓code_region, ↓code_seq, ↓onNormal_normal, bin_int, int_gtr, evG_eq, ↓vrun_cons, ↓run1_some, ↓run2_none, ↓run3_some, ↓code_cond, ↓vtest_bool, Option.map_some, Nat.reduceLT, Int.reduceLT, true_and, Bool.true_and, Bool.cond_self, beq_self_eq_true, dec_t]
  refine vbr_split (fun hc => ?_) (fun hc => ?_) <;> simp only [decide_eq_true_eq, decide_eq_false_iff_not, Bool.or_eq_true, Bool.and_eq_true, Bool.or_eq_false_iff, Bool.and_eq_false_imp, Bool.not_eq_true', Bool.not_eq_false', beq_iff_eq, beq_eq_false_iff_ne, bne_iff_ne, bne_eq_false_iff_eq, ne_eq] at hc
  · by_cases he : i.l = []
    · have hw : wh i.c i.l = [cb i.c] := by rw [wh, if_pos he]
      have hd : wsd i.l = .pv (.slc []) := by rw [wsd, if_pos he]
      simp (config := { maxSteps := 2000000 }) (disch := first | omega | assumption | (simp only [List.length_cons, List.length_nil, Nat.zero_add, Nat.reduceAdd]; done) | (simp only [IntKind.wrap_i64]; omega)) only [vop_move, vcallee_move, vcallee_value, vcal_fn, strip_pv, strip_ptr, strip_fn, optV_none, ev_tmp, ev_const, ev_func, ofConst_int, put_some, at_mk, fits_some, ↓look_cons, ↓vlook_t, ↓vlook_f, guard_none, ↓code_skip, ↓code_region, ↓code_seq, ↓code_block, ↓onNormal_normal, evG_eq, ↓vrun_cons, ↓run1_some, ↓run2_none, ↓run2_some, ↓run3_some, ↓vcg_none, List.map_nil, List.map_cons, List.map_nil, List.nil_append, List.append_nil, Nat.reduceLT, Nat.reduceBEq, Int.reduceLT, Int.reduceBEq, true_and, Bool.true_and, Bool.cond_self, beq_self_eq_true, dec_t, hw, hd]
      refine vc_codes (k := 0) (c := i.c) rfl (next_v _ 10 (by omega)) rfl ?_
      simp (config := { maxSteps := 2000000 }) (disch := first | omega | assumption | (simp only [List.length_cons, List.length_nil, Nat.zero_add, Nat.reduceAdd]; done) | (simp only [IntKind.wrap_i64]; omega)) only [vop_move, vcallee_move, vcallee_value, vcal_fn, strip_pv, strip_ptr, strip_fn, optV_none, ev_tmp, ev_const, ev_func, ofConst_int, put_some, at_mk, fits_some, ↓look_cons, ↓vlook_t, ↓vlook_f, guard_none, evG_eq, ↓vrun_cons, ↓run1_some, ↓run2_none, ↓run2_some, ↓run3_some, ↓runK_eq, ↓vcg_none, List.map_nil, List.map_cons, List.map_nil, List.nil_append, List.append_nil, List.set_cons_zero, Nat.reduceLT, Nat.reduceBEq, Int.reduceLT, Int.reduceBEq, true_and, Bool.true_and, Bool.cond_self, beq_self_eq_true, dec_t]
      refine vc_codes (k := 0) (c := i.c.adv 10) rfl (next_v _ 9 (by omega)) rfl ?_
      have h1 := nxt_lt i.c 10 (by omega)
      have h2 := nxt_lt (i.c.adv 10) 9 (by omega)
      have e1 : (i.k : Int) - 1 = ((i.k - 1 : Nat) : Int) := by omega
      simp (config := { maxSteps := 2000000 }) (disch := first | omega | assumption | (simp only [List.length_cons, List.length_nil, Nat.zero_add, Nat.reduceAdd]; done) | (simp only [IntKind.wrap_i64]; omega)) only [vop_move, vcallee_move, vop_assign, vcallee_assign, vop_build, vcallee_build, vop_buildSlice, vcallee_buildSlice, vop_binOp, vcallee_binOp, vop_builtin, vcallee_builtin, strip_pv, strip_own, strip_agg, optV_none, ev_tmp, ev_const, ofConst_int, put_some, at_mk, fits_some, ↓look_cons, ↓vlook_t, ↓vlook_f, guard_none, ↓vrun_nil, ↓code_region, ↓onNormal_normal, ↓onBlock_normal, blk_zero, blk_succ, allOne_nil, allOne_cons, one_pv, bin_int, int_sub, bi_append, parts_nil, parts_cons, evG_eq, ↓vrun_cons, ↓run1_some, ↓run2_none, ↓run3_some, ↓runK_eq, pvs, List.flatten_nil, List.map_nil, dcells, vbuild, vfill, vbuildSlice, V.mk, vsrc, vbase, vappend, V.splice, List.getElem?_cons_zero, List.getElem?_cons_succ, List.getElem?_nil, List.length_cons, List.length_nil, List.map_cons, List.map_nil, List.cons_append, List.nil_append, List.append_nil, List.take_succ_cons, List.take_zero, List.take_nil, List.drop_succ_cons, List.drop_zero, List.drop_nil, List.set_cons_zero, Option.map_some, Option.map_none, ↓reduceIte, reduceCtorEq, Nat.reduceAdd, Nat.reduceLT, Nat.reduceLeDiff, Nat.reduceBEq, Int.reduceLT, Int.reduceAdd, Int.reduceBEq, Nat.zero_add, Nat.zero_mul, Nat.one_mul, true_and, and_self, or_false, or_self, Bool.or_false, Bool.true_and, Bool.or_self, Bool.and_self, cond_true, Bool.cond_self, beq_self_eq_true, Nat.le_refl, Try.velem33, Try.notInt33, Try.vplaces36, Try.vzero36, Try.bytes36, wrap_i64_in, dec_t, e1]
      refine ⟨⟨i.k - 1, by omega, (i.c.adv 10).adv 9, [⟨i.c.nxt 10, (i.c.adv 10).nxt 9⟩], by simp; omega, by simp; omega⟩, by show i.k - 1 < i.k; omega, ?_⟩
      refine gc_of (keep := [0, 2]) rfl rfl rfl (by decide) ⟨⟨_, rfl, rfl, rfl, .inl ⟨rfl, rfl⟩⟩, ⟨_, rfl, rfl, rfl, .inl ⟨rfl, rfl⟩⟩, trivial⟩ ?_
      refine ⟨⟨rfl, rfl⟩, ⟨rfl, rfl⟩, ⟨rfl, rfl⟩, ⟨rfl, rfl⟩, trivial⟩
    · have hw : wh i.c i.l = [cb i.c, ⟨36, true, wcs i.l⟩] := by rw [wh, if_neg he]
      have hd : wsd i.l = .own 1 2 0 i.l.length := by rw [wsd, if_neg he]
      have hlen := wcs_len i.l
      have ht : (wcs i.l).take (i.l.length * 2) = wcs i.l := List.take_of_length_le (by omega)
      have hle : i.l.length * 2 ≤ 2 * i.l.length := by omega
      have hby : (i.l.length + 1) * 16 ≤ 140737488355328 := by omega
      simp (config := { maxSteps := 2000000 }) (disch := first | omega | assumption | (simp only [List.length_cons, List.length_nil, Nat.zero_add, Nat.reduceAdd]; done) | (simp only [IntKind.wrap_i64]; omega)) only [vop_move, vcallee_move, vcallee_value, vcal_fn, strip_pv, strip_ptr, strip_own, strip_fn, optV_none, ev_tmp, ev_const, ev_func, ofConst_int, put_some, at_mk, fits_some, ↓look_cons, ↓vlook_t, ↓vlook_f, guard_none, ↓code_skip, ↓code_region, ↓code_seq, ↓code_block, ↓onNormal_normal, evG_eq, ↓vrun_cons, ↓run1_some, ↓run2_none, ↓run2_some, ↓run3_some, ↓vcg_none, List.map_nil, List.map_cons, List.map_nil, List.nil_append, List.append_nil, Nat.reduceLT, Nat.reduceBEq, Int.reduceLT, Int.reduceBEq, true_and, Bool.true_and, Bool.cond_self, beq_self_eq_true, dec_t, hw, hd]
      refine vc_codes (k := 0) (c := i.c) rfl (next_v _ 10 (by omega)) rfl ?_
      simp (config := { maxSteps := 2000000 }) (disch := first | omega | assumption | (simp only [List.length_cons, List.length_nil, Nat.zero_add, Nat.reduceAdd]; done) | (simp only [IntKind.wrap_i64]; omega)) only [vop_move, vcallee_move, vcallee_value, vcal_fn, strip_pv, strip_ptr, strip_fn, optV_none, ev_tmp, ev_const, ev_func, ofConst_int, put_some, at_mk, fits_some, ↓look_cons, ↓vlook_t, ↓vlook_f, guard_none, evG_eq, ↓vrun_cons, ↓run1_some, ↓run2_none, ↓run2_some, ↓run3_some, ↓runK_eq, ↓vcg_none, List.map_nil, List.map_cons, List.map_nil, List.nil_append, List.append_nil, List.set_cons_zero, Nat.reduceLT, Nat.reduceBEq, Int.reduceLT, Int.reduceBEq, true_and, Bool.true_and, Bool.cond_self, beq_self_eq_true, dec_t]
      refine vc_codes (k := 0) (c := i.c.adv 10) rfl (next_v _ 9 (by omega)) rfl ?_
      have h1 := nxt_lt i.c 10 (by omega)
      have h2 := nxt_lt (i.c.adv 10) 9 (by omega)
      have e1 : (i.k : Int) - 1 = ((i.k - 1 : Nat) : Int) := by omega
      simp (config := { maxSteps := 2000000 }) (disch := first | omega | assumption | (simp only [List.length_cons, List.length_nil, Nat.zero_add, Nat.reduceAdd]; done) | (simp only [IntKind.wrap_i64]; omega)) only [vop_move, vcallee_move, vop_assign, vcallee_assign, vop_build, vcallee_build, vop_buildSlice, vcallee_buildSlice, vop_binOp, vcallee_binOp, vop_builtin, vcallee_builtin, strip_pv, strip_own, strip_agg, optV_none, ev_tmp, ev_const, ofConst_int, put_some, at_mk, fits_some, ↓look_cons, ↓vlook_t, ↓vlook_f, guard_none, ↓vrun_nil, ↓code_region, ↓onNormal_normal, ↓onBlock_normal, blk_zero, blk_succ, allOne_nil, allOne_cons, one_pv, bin_int, int_sub, bi_append, parts_nil, parts_cons, evG_eq, ↓vrun_cons, ↓run1_some, ↓run2_none, ↓run3_some, ↓runK_eq, List.map_nil, dcells, vbuild, vfill, vbuildSlice, V.mk, vsrc, vbase, vappend, V.kill, V.splice, List.getElem?_cons_zero, List.getElem?_cons_succ, List.length_cons, List.length_nil, List.map_cons, List.map_nil, List.cons_append, List.nil_append, List.append_nil, List.take_succ_cons, List.take_zero, List.take_nil, List.drop_succ_cons, List.drop_zero, List.drop_nil, List.set_cons_zero, List.set_cons_succ, Option.map_some, ↓reduceIte, Nat.reduceAdd, Nat.reduceLT, Nat.reduceLeDiff, Nat.reduceBEq, Int.reduceLT, Int.reduceAdd, Int.reduceBEq, Nat.zero_add, Nat.zero_mul, Nat.one_mul, true_and, and_self, Bool.true_and, Bool.and_self, cond_true, Bool.cond_self, beq_self_eq_true, Nat.le_refl, Try.velem33, Try.notInt33, Try.vplaces36, Try.vzero36, Try.bytes36, wrap_i64_in, dec_t, hlen, ht, hle, hby, e1]
      have hne : ¬ i.l ++ [(⟨i.c.nxt 10, (i.c.adv 10).nxt 9⟩ : W)] = [] := by simp
      have hll : (i.l ++ [(⟨i.c.nxt 10, (i.c.adv 10).nxt 9⟩ : W)]).length = i.l.length + 1 := by simp
      refine ⟨⟨i.k - 1, by omega, (i.c.adv 10).adv 9, i.l ++ [⟨i.c.nxt 10, (i.c.adv 10).nxt 9⟩], by rw [hll]; omega, fun x hx => (List.mem_append.1 hx).elim (i.hw x) fun h => by simp at h; subst h; exact ⟨by show (0 : Int) ≤ (i.c.nxt 10 : Int); omega, by show (i.c.nxt 10 : Int) ≤ 9; omega⟩⟩, by show i.k - 1 < i.k; omega, ?_⟩
      have hd2 : wsd (i.l ++ [(⟨i.c.nxt 10, (i.c.adv 10).nxt 9⟩ : W)]) = .own 1 2 0 (i.l.length + 1) := by rw [wsd, if_neg hne, hll]
      have hw2 : wh ((i.c.adv 10).adv 9) (i.l ++ [(⟨i.c.nxt 10, (i.c.adv 10).nxt 9⟩ : W)]) = [cb ((i.c.adv 10).adv 9), ⟨36, true, wcs i.l ++ wc ⟨i.c.nxt 10, (i.c.adv 10).nxt 9⟩⟩] := by rw [wh, if_neg hne, wcs_app]
      have key : (⟨20, 1, [(4, .int .i64 (i.k - 1 : Nat)), (3, wsd (i.l ++ [(⟨i.c.nxt 10, (i.c.adv 10).nxt 9⟩ : W)])), (2, .pv (.slc [])), (0, .ptr 0 0)], wh ((i.c.adv 10).adv 9) (i.l ++ [(⟨i.c.nxt 10, (i.c.adv 10).nxt 9⟩ : W)])⟩ : St) = ⟨20, 1, [(4, .int .i64 (i.k - 1 : Nat)), (3, .own 1 2 0 (i.l.length + 1)), (2, .pv (.slc [])), (0, .ptr 0 0)], [cb ((i.c.adv 10).adv 9), ⟨36, true, wcs i.l ++ wc ⟨i.c.nxt 10, (i.c.adv 10).nxt 9⟩⟩]⟩ := by rw [hd2, hw2]
      refine Eq.subst (motive := fun z => Weak _ z) key.symm ?_
      refine gc_of (keep := [0, 3]) rfl rfl rfl (by decide) ⟨⟨_, rfl, rfl, rfl, .inl ⟨rfl, rfl⟩⟩, ⟨_, rfl, rfl, rfl, .inl ⟨?_, rfl⟩⟩, trivial⟩ ?_
      · exact nums_app _ (wcs_nums _ _) rfl
      refine ⟨⟨rfl, rfl⟩, ⟨rfl, rfl⟩, ⟨rfl, rfl⟩, ⟨rfl, rfl⟩, trivial⟩
  · by_cases he : i.l = []
    · have hw : wh i.c i.l = [cb i.c] := by rw [wh, if_pos he]
      have hd : wsd i.l = .pv (.slc []) := by rw [wsd, if_pos he]
      simp (config := { maxSteps := 2000000 }) (disch := first | omega | assumption | (simp only [List.length_cons, List.length_nil, Nat.zero_add, Nat.reduceAdd]; done) | (simp only [IntKind.wrap_i64]; omega)) only [vop_move, vcallee_move, vop_assign, vcallee_assign, strip_pv, optV_none, ev_tmp, put_some, at_mk, fits_some, ↓look_cons, ↓vlook_t, ↓vlook_f, guard_none, ↓vrun_nil, ↓code_region, ↓code_seq, ↓code_exit, ↓code_ret, ↓onNormal_normal, ↓onNormal_exit, ↓onBlock_exit, res_one, vres_tmp, evG_eq, ↓vrun_cons, ↓run1_some, ↓run2_none, ↓run3_some, ↓keep_ret, vfinK_some, at_hp, ↓reduceIte, Nat.reduceLT, Nat.reduceBEq, Int.reduceLT, Int.reduceBEq, true_and, Bool.true_and, Bool.cond_self, beq_self_eq_true, dec_t, dec_f, hw, hd]
      exact ⟨_, [], by simp, by simp, .inl ⟨rfl, rfl, rfl⟩⟩
    · have hw : wh i.c i.l = [cb i.c, ⟨36, true, wcs i.l⟩] := by rw [wh, if_neg he]
      have hd : wsd i.l = .own 1 2 0 i.l.length := by rw [wsd, if_neg he]
      simp (config := { maxSteps := 2000000 }) (disch := first | omega | assumption | (simp only [List.length_cons, List.length_nil, Nat.zero_add, Nat.reduceAdd]; done) | (simp only [IntKind.wrap_i64]; omega)) only [vop_move, vcallee_move, vop_assign, vcallee_assign, strip_own, optV_none, ev_tmp, put_some, at_mk, fits_some, ↓look_cons, ↓vlook_t, ↓vlook_f, guard_none, ↓vrun_nil, ↓code_region, ↓code_seq, ↓code_exit, ↓code_ret, ↓onNormal_normal, ↓onNormal_exit, ↓onBlock_exit, res_one, vres_tmp, evG_eq, ↓vrun_cons, ↓run1_some, ↓run2_none, ↓run3_some, ↓keep_ret, vfinK_some, at_hp, ↓reduceIte, Nat.reduceLT, Nat.reduceBEq, Int.reduceLT, Int.reduceBEq, true_and, Bool.true_and, Bool.cond_self, beq_self_eq_true, dec_t, dec_f, hw, hd]
      exact ⟨_, i.l, by omega, i.hw, .inr ⟨rfl, rfl⟩⟩
end Go.Proofs.Ytbbomgodoodcjaa

namespace Go.Proofs.Ytbbomgodoodcjaa
open Go.V Go

/-! ### Fairness: how often others can be chosen before kind k1 must be -/
def Q.far (q : Q) (k1 : Int) : Nat := if q.kind = k1 ∧ q.used < shareAt q k1 then 0 else ((k1 - q.kind - 1) % 8 + 1).toNat
def Q.ahead (q : Q) (i : Nat) : Int := shareAt q ((q.kind - 1 + i) % 8 + 1)
def Q.sumTo (q : Q) : Nat → Int
  | 0 => 0
  | n + 1 => q.sumTo n + q.ahead n
def Q.rem (q : Q) (k1 : Int) : Int := if q.far k1 = 0 then 0 else q.sumTo (q.far k1) - q.used

theorem share_nn (q : Q) (hv : valid q = true) (k : Int) : 0 ≤ shareAt q k := by
  rw [shareAt, List.getD_eq_getElem?_getD]
  cases h : q.sh[(k - 1).toNat]? with
  | none => simp
  | some n => exact (valid_all q hv _ (List.mem_of_getElem? h)).1

theorem sumTo_mono (q : Q) (hv : valid q = true) (m : Nat) : ∀ n, q.sumTo m ≤ q.sumTo (m + n)
  | 0 => by simp
  | n + 1 => by
    have h1 := sumTo_mono q hv m n
    have h2 := share_nn q hv ((q.kind - 1 + (m + n : Nat)) % 8 + 1)
    show q.sumTo m ≤ q.sumTo (m + n) + q.ahead (m + n)
    rw [Q.ahead]; omega

theorem sumTo_8 (q : Q) (hk : 1 ≤ q.kind ∧ q.kind ≤ 8) : q.sumTo 8 = q.sh.sum := by
  obtain ⟨s, k, u, hl, hb⟩ := q
  obtain ⟨a, b, c, d, e, f, g, i, rfl⟩ := len8 hl
  simp only at hk
  have : k = 1 ∨ k = 2 ∨ k = 3 ∨ k = 4 ∨ k = 5 ∨ k = 6 ∨ k = 7 ∨ k = 8 := by omega
  rcases this with rfl | rfl | rfl | rfl | rfl | rfl | rfl | rfl <;> simp [Q.sumTo, Q.ahead, shareAt] <;> omega

theorem far_le (q : Q) (k1 : Int) : q.far k1 ≤ 8 := by
  unfold Q.far; split <;> omega

theorem rem_le (q : Q) (hv : valid q = true) (k1 : Int) : 0 ≤ q.rem k1 ∧ q.rem k1 ≤ q.sh.sum := by
  have hv2 := hv
  rw [valid, Bool.and_eq_true] at hv2
  have hk := of_decide_eq_true hv2.2
  have h8 := sumTo_8 q ⟨hk.1, hk.2.1⟩
  have hm : q.sumTo (q.far k1) ≤ q.sumTo 8 := by
    have := sumTo_mono q hv (q.far k1) (8 - q.far k1)
    rwa [Nat.add_sub_cancel' (far_le q k1)] at this
  have h0 := sumTo_mono q hv 0 8
  have e0 : q.sumTo 0 = 0 := rfl
  unfold Q.rem
  split
  · rw [Nat.zero_add] at h0; omega
  · rename_i hf
    have h1 : q.sumTo 1 ≤ q.sumTo (q.far k1) := by
      have := sumTo_mono q hv 1 (q.far k1 - 1)
      rwa [Nat.add_sub_cancel' (by omega)] at this
    have e1 : q.sumTo 1 = shareAt q q.kind := by
      show 0 + q.ahead 0 = _
      rw [Q.ahead, show (q.kind - 1 + (0 : Nat)) % 8 + 1 = q.kind by omega]; omega
    omega

theorem sumTo_adv (q : Q) (p : Q) (hs : p.sh = q.sh) (n : Nat) (hk : p.kind = (q.kind - 1 + n) % 8 + 1) : ∀ m, q.sumTo (n + m) = q.sumTo n + p.sumTo m
  | 0 => by simp [Q.sumTo]
  | m + 1 => by
    have ih := sumTo_adv q p hs n hk m
    show q.sumTo (n + m) + q.ahead (n + m) = q.sumTo n + (p.sumTo m + p.ahead m)
    have : q.ahead (n + m) = p.ahead m := by
      rw [Q.ahead, Q.ahead, shareAt, shareAt, hs, hk]
      congr 2; omega
    omega

theorem fair_step (q : Q) (l : List W) (hv : valid q = true) (k1 : Int) (hk1 : 1 ≤ k1 ∧ k1 ≤ 8) (hs1 : 0 < shareAt q k1) (hh : has l k1 = true) :
    (next q l).e = 0 ∧ (next q l).ok = true ∧ (1 ≤ (next q l).w.kind ∧ (next q l).w.kind ≤ 8) ∧ 0 < shareAt q (next q l).w.kind ∧ valid (next q l).q = true ∧ (next q l).q.sh = q.sh ∧ ((next q l).w.kind ≠ k1 → (next q l).q.rem k1 + 1 ≤ q.rem k1) := by
  have hso : someOff q l = true := by
    obtain ⟨w, hw, e⟩ := (has_iff l k1).1 hh
    rw [someOff, List.any_eq_true]
    exact ⟨w, hw, decide_eq_true (by rw [e]; exact ⟨hk1.1, hk1.2, hs1⟩)⟩
  obtain ⟨h1, h2, _, _, h5, h6⟩ := next_spec q l hv
  refine ⟨h1, h2.trans hso, ?_⟩
  have hv2 := hv
  rw [valid, Bool.and_eq_true] at hv2
  have hk := of_decide_eq_true hv2.2
  obtain ⟨sp1, sp2, sp3⟩ := steps_spec q l ⟨hk.1, hk.2.1⟩ hso
  have hn : next q l = ⟨(q.advN (steps q l)).use, (firstOf l (q.advN (steps q l)).kind).getD W0, true, 0⟩ := by rw [next, if_pos hv, hso, if_pos rfl]
  have hok := advN_ok q hv (steps q l)
  have hkn := advN_kind q ⟨hk.1, hk.2.1⟩ (steps q l)
  have hus := advN_used q (steps q l)
  have hsh := advN_sh q (steps q l)
  have h0 : steps q l = 0 → q.advN (steps q l) = q := fun h => by rw [h]; rfl
  -- kind k1 is met after 'far' steps, and chosen there
  have hle : steps q l ≤ q.far k1 := by
    by_cases hlt : q.far k1 < steps q l
    · have hg := sp3 _ hlt
      have a1 := advN_kind q ⟨hk.1, hk.2.1⟩ (q.far k1)
      have a2 := advN_used q (q.far k1)
      have a3 := advN_sh q (q.far k1)
      have hf : (q.advN (q.far k1)).kind = k1 := by rw [a1]; unfold Q.far; split <;> omega
      rw [Q.good, hf, hh, Bool.and_true, decide_eq_false_iff_not] at hg
      exfalso; apply hg
      rw [shareAt, a3]
      by_cases hz : q.far k1 = 0
      · rw [hz]
        have : q.kind = k1 ∧ q.used < shareAt q k1 := by
          unfold Q.far at hz; split at hz
          · assumption
          · omega
        exact this.2
      · rw [a2 (by omega)]; exact hs1
    · omega
  rw [hn]
  generalize hp : q.advN (steps q l) = p at *
  generalize hN : steps q l = N at *
  rw [Q.good, Bool.and_eq_true, ← has_first, Option.isSome_iff_exists] at sp2
  obtain ⟨hlt, w, hw⟩ := sp2
  have hlt := of_decide_eq_true hlt
  have hwk : w.kind = p.kind := by have := List.find?_some hw; simpa using this
  have hsp : ∀ k, shareAt q k = shareAt p k := fun k => by rw [shareAt, shareAt, hsh]
  simp only [hw, Option.getD_some]
  rw [hwk]
  rw [hn] at h5 h6
  refine ⟨hok.1, by rw [hsp]; omega, h5, h6, fun hne => ?_⟩
  -- less is left
  have hfar0 : 0 < q.far k1 := by
    by_cases hz : q.far k1 = 0
    · have hN0 : N = 0 := by omega
      have hpq := h0 hN0
      have : q.kind = k1 := by
        unfold Q.far at hz; split at hz
        · rename_i h; exact h.1
        · omega
      rw [hpq] at hne; exact absurd this hne
    · omega
  have hNlt : N < q.far k1 := by
    by_cases e : N = q.far k1
    · exfalso; apply hne
      rw [hkn, e]; unfold Q.far at hfar0 ⊢; split <;> omega
    · omega
  have hfp : p.use.far k1 = q.far k1 - N := by
    have hpk : p.use.kind = p.kind := rfl
    have hne2 : ¬ (p.use.kind = k1 ∧ p.use.used < shareAt p.use k1) := fun h => hne h.1
    have : p.use.far k1 = ((k1 - p.kind - 1) % 8 + 1).toNat := by unfold Q.far; rw [if_neg hne2, hpk]
    rw [this]
    unfold Q.far at hfar0 hNlt ⊢
    split at hfar0
    · omega
    · rename_i hc
      rw [if_neg hc] at hNlt ⊢
      omega
  have hse : q.sumTo (q.far k1) = q.sumTo N + p.sumTo (q.far k1 - N) := by
    have := sumTo_adv q p hsh N hkn (q.far k1 - N)
    rwa [Nat.add_sub_cancel' (by omega)] at this
  have hse2 : p.use.sumTo (q.far k1 - N) = p.sumTo (q.far k1 - N) := by
    have : ∀ m, p.use.sumTo m = p.sumTo m := fun m => by
      induction m with
      | zero => rfl
      | succ m ih => show p.use.sumTo m + _ = p.sumTo m + _; rw [ih]; rfl
    exact this _
  have hr1 : p.use.rem k1 = p.sumTo (q.far k1 - N) - (p.used + 1) := by
    unfold Q.rem; rw [hfp, if_neg (by omega), hse2]; rfl
  have hr2 : q.rem k1 = q.sumTo (q.far k1) - q.used := by unfold Q.rem; rw [if_neg (by omega)]
  show p.use.rem k1 + 1 ≤ q.rem k1
  rw [hr1, hr2, hse]
  by_cases hz : N = 0
  · have hpq := h0 hz
    subst hz
    have : q.sumTo 0 = 0 := rfl
    rw [hpq]; omega
  · have hu := hus (by omega)
    have h1 : q.sumTo 1 ≤ q.sumTo N := by
      have := sumTo_mono q hv 1 (N - 1)
      rwa [Nat.add_sub_cancel' (by omega)] at this
    have e1 : q.sumTo 1 = shareAt q q.kind := by
      show 0 + q.ahead 0 = _
      rw [Q.ahead, show (q.kind - 1 + (0 : Nat)) % 8 + 1 = q.kind by omega]; omega
    omega
end Go.Proofs.Ytbbomgodoodcjaa

namespace Go.Proofs.Ytbbomgodoodcjaa
open Go.V Go
set_option maxRecDepth 100000
set_option linter.unusedSimpArgs false

structure I6a where
  i : Nat
  hi : i ≤ 8
  s : List Int
  hs : s.length = 8
  ok : ∀ j, j < i → 0 ≤ s.getD j 0 ∧ s.getD j 0 ≤ 3

theorem getD_set (l : List Int) (i j : Nat) (x : Int) (h : i < l.length) : (l.set i x).getD j 0 = if i = j then x else l.getD j 0 := by
  rw [List.getD_eq_getElem?_getD, List.getD_eq_getElem?_getD, List.getElem?_set]
  by_cases e : i = j
  · rw [if_pos e, if_pos e, if_pos (by omega)]; rfl
  · rw [if_neg e, if_neg e]

def cl3 (n : Int) : Int := if 3 < (if 0 > n then 0 else n) then 3 else if 0 > n then 0 else n
theorem cl3_bd (n : Int) : 0 ≤ cl3 n ∧ cl3 n ≤ 3 := by unfold cl3; split <;> split <;> omega
def cl1 (n : Int) : Int := if 1 > n then 1 else n

theorem newQ_ok (s : List Int) (hs : s.length = 8) (h : ∀ j, j < 8 → 0 ≤ s.getD j 0 ∧ s.getD j 0 ≤ 3) : valid (newQ s hs) = true := by
  rw [valid, Bool.and_eq_true]
  refine ⟨List.all_eq_true.2 fun n hn => ?_, decide_eq_true ⟨by show (1 : Int) ≤ 1; omega, by show (1 : Int) ≤ 8; omega, by show (0 : Int) ≤ 0; omega, ?_⟩⟩
  · obtain ⟨j, hj, rfl⟩ := List.getElem_of_mem hn
    have hj' : j < s.length := hj
    have := h j (by omega)
    rw [List.getD_eq_getElem?_getD, List.getElem?_eq_getElem hj', Option.getD_some] at this
    exact decide_eq_true ⟨this.1, by show s[j] ≤ 100; omega⟩
  · have := h 0 (by omega)
    show 0 ≤ s.getD _ 0
    exact this.1

theorem vc_offersO {hp : Heap} {k : Nat} {c : C} {K : DV → Heap → Prop} (hk : hp[k]? = some (cb c))
    (hK : ∀ (c' : C) (l : List W), l.length ≤ 8 → (∀ x ∈ l, 0 ≤ x.kind ∧ x.kind ≤ 9) → (l = [] → K (.pv (.slc [])) (hp.set k (cb c'))) ∧ K (.own hp.length 2 0 l.length) (hp.set k (cb c') ++ [⟨36, true, wcs l⟩])) : VCalls Try.prog 12 [.ptr k 0] hp K := by
  refine (VCalls.frame1 hk (cc_nums c) (offersO_v c) (by simp [DV.nums.go, DV.nums])).mono ?_
  rintro r h2 ⟨r0, B', l0, ⟨c', l, h1, h2', h3⟩, rfl, rfl⟩
  have hr : renB (back [k] hp.length) (cb c') = cb c' := renB_id _ _ (cc_nums c')
  obtain ⟨k1, k2⟩ := hK c' l h1 h2'
  rcases h3 with ⟨e1, rfl, e3⟩ | ⟨rfl, e3⟩
  · cases e3
    rw [hr, List.map_nil, List.append_nil]; exact k1 e1
  · cases e3
    rw [hr, List.map_cons, List.map_nil, renB_id _ _ (wcs_nums _ l)]
    exact k2

structure I6 (s : List Int) (k1 : Int) where
  n : Nat
  hn : n ≤ 80
  c : C
  q : Q
  hq : q.sh = s
  hv : valid q = true
  since : Int
  h0 : 0 ≤ since
  hs : since + q.rem k1 ≤ s.sum

set_option maxHeartbeats 4000000 in
theorem fair_v (l : List UInt8) (hl : l.length ≤ 9223372036854775807) (kd : Int) (hkd : 0 ≤ kd ∧ kd ≤ 255) : VCalls Try.prog 6 [.pv (.sl (sl8 l)), .int .u8 kd] [] (Ret (.bool true)) := by
  refine vcalls_drop (fn := Try.f6) Try.func6 rfl (by kernel_rfl) (by simp [Try.f6]) ?_
  simp (config := { maxSteps := 2000000 }) (disch := first | omega | assumption | (simp only [List.length_cons, List.length_nil, Nat.zero_add, Nat.reduceAdd]; done) | (simp only [IntKind.wrap_i64]; omega)) only [vop_assign, vcallee_assign, vcallee_value, vcal_fn, strip_pv, strip_fn, optV_none, ev_const, ev_func, ofConst_bool, put_some, at_mk, fits_some, guard_none, ↓vrun_nil, ↓code_region, ↓code_seq, ↓onNormal_normal, enum_nil, enum_cons, evG_eq, ↓vrun_cons, ↓run1_some, ↓run2_none, ↓run2_some, ↓run3_some, ↓vcg_none, List.map_nil, List.toList_toArray, List.length_nil, List.map_nil, List.append_nil, Nat.reduceAdd, Nat.reduceLT, Int.reduceLT, Int.reduceAdd, Nat.zero_add, true_and, Bool.true_and, Bool.cond_self, dec_t, Try.f6]
  refine vc_pure awake_v rfl ?_
  simp (config := { maxSteps := 2000000 }) (disch := first | omega | assumption | (simp only [List.length_cons, List.length_nil, Nat.zero_add, Nat.reduceAdd]; done) | (simp only [IntKind.wrap_i64]; omega)) only [vop_move, vcallee_move, vop_unOp, vcallee_unOp, vcallee_value, vcal_fn, strip_pv, strip_fn, optV_none, ev_tmp, ev_const, ev_func, ofConst_int, put_some, at_mk, fits_some, ↓look_cons, ↓vlook_t, ↓vlook_f, guard_none, ↓vrun_nil, ↓code_skip, ↓code_region, ↓code_seq, ↓onNormal_normal, un_not, evG_eq, ↓vrun_cons, ↓run1_some, ↓run2_none, ↓run2_some, ↓run3_some, ↓runK_eq, ↓vcg_none, ↓code_cond, ↓vtest_bool, ↓vbr_false, List.map_nil, List.map_cons, List.map_nil, List.nil_append, List.append_nil, Option.map_some, Nat.reduceLT, Nat.reduceBEq, Int.reduceLT, Int.reduceBEq, true_and, Bool.not_true, Bool.true_and, Bool.cond_self, beq_self_eq_true, dec_t]
  refine vc_draw l 400 (by omega) (by omega) hl ?_
  have ht : kd.tmod 8 = kd % 8 := Int.tmod_eq_emod_of_nonneg (by omega)
  simp (config := { maxSteps := 2000000 }) (disch := first | omega | assumption | (simp only [List.length_cons, List.length_nil, Nat.zero_add, Nat.reduceAdd]; done) | (simp only [IntKind.wrap_i64]; omega)) only [vop_move, vcallee_move, vop_assign, vcallee_assign, vop_binOp, vcallee_binOp, vop_convert, vcallee_convert, vcallee_value, vcal_fn, strip_pv, strip_ptr, strip_fn, optV_none, ev_tmp, ev_const, ev_func, ofConst_int, put_some, at_mk, fits_some, ↓look_cons, ↓vlook_t, ↓vlook_f, guard_none, ↓vrun_nil, ↓code_region, ↓code_seq, ↓onNormal_normal, bin_int, int_rem, conv_int, vci_int, evG_eq, ↓vrun_cons, ↓run1_some, ↓run2_none, ↓run2_some, ↓run3_some, ↓runK_eq, ↓vcg_none, List.map_nil, List.length_nil, List.map_cons, List.map_nil, List.nil_append, List.append_nil, Option.map_some, Nat.reduceLT, Nat.reduceBEq, Int.reduceLT, Int.reduceBEq, true_and, Bool.true_and, Bool.cond_self, beq_self_eq_true, Try.vkind3, Try.vkind5, wrap_i64_in, dec_t, ht]
  refine vc_codesR (k := 0) (c := cnew l 400 (by omega)) rfl (shares_v _) rfl ?_
  rintro _ c ⟨s, hs, rfl⟩
  simp (config := { maxSteps := 2000000 }) (disch := first | omega | assumption | (simp only [List.length_cons, List.length_nil, Nat.zero_add, Nat.reduceAdd]; done) | (simp only [IntKind.wrap_i64]; omega)) only [vop_assign, vcallee_assign, vop_alloc, vcallee_alloc, vop_store, vcallee_store, strip_pv, strip_ptr, strip_agg, optV_none, ev_tmp, ev_const, ofConst_int, put_some, put_none, at_mk, fits_some, fits_none, ↓look_cons, ↓vlook_t, ↓vlook_f, guard_none, ↓vrun_nil, ↓code_region, ↓code_seq, ↓code_block, ↓code_loop, ↓onNormal_normal, store_ptr, vst_agg, blk_zero, blk_succ, set_zero, set_succ, alloc_eq, val1_some, allOne_nil, allOne_cons, one_pv, evG_eq, ↓vrun_cons, ↓run1_some, ↓run2_none, ↓run3_some, ↓runK_eq, V.splice, List.length_cons, List.length_nil, List.cons_append, List.nil_append, List.append_nil, List.take_zero, List.drop_succ_cons, List.drop_nil, List.set_cons_zero, Option.map_some, ↓reduceIte, Nat.reduceAdd, Nat.reduceLT, Nat.reduceBEq, Int.reduceLT, Int.reduceAdd, Int.reduceBEq, Nat.zero_add, true_and, and_self, Bool.true_and, Bool.and_self, cond_true, Bool.cond_self, beq_self_eq_true, Nat.le_refl, Try.vt26, Try.vzero26, dec_t, ints_len, ints_one, hs, ints_take8 s hs]
  refine vloop (fun i : I6a => ⟨104, 0, [(8, .int .i64 i.i), (7, .ptr 1 0), (6, .int .i64 (kd % 8)), (5, .ptr 0 0), (4, .bool false)], [cb c, ⟨26, true, ints i.s⟩]⟩) (fun i => 8 - i.i) ⟨0, by omega, s, hs, by omega⟩ (by refine ⟨rfl, rfl, by simp, ?_, ?_, .inl rfl⟩ <;> (repeat' apply And.intro) <;> first | rfl | trivial) ?_
  intro i
  have hi := i.hi
  have his := i.hs
  simp (config := { maxSteps := 2000000 }) (disch := first | omega | assumption | (simp only [List.length_cons, List.length_nil, Nat.zero_add, Nat.reduceAdd]; done) | (simp only [IntKind.wrap_i64]; omega)) only [vop_move, vcallee_move, vop_binOp, vcallee_binOp, strip_pv, optV_none, ev_tmp, ev_const, ofConst_int, put_some, at_mk, fits_some, ↓look_cons, ↓vlook_t, guard_none, ↓vrun_nil, ↓code_region, ↓code_seq, ↓onNormal_normal, bin_int, int_lss, evG_eq, ↓vrun_cons, ↓run1_some, ↓run2_none, ↓run3_some, ↓code_cond, ↓vtest_bool, Option.map_some, Nat.reduceLT, Int.reduceLT, true_and, Bool.true_and, Bool.cond_self, beq_self_eq_true, dec_t]
  refine vbr_split (fun hc => ?_) (fun hc => ?_) <;> simp only [decide_eq_true_eq, decide_eq_false_iff_not, Bool.or_eq_true, Bool.and_eq_true, Bool.or_eq_false_iff, Bool.and_eq_false_imp, Bool.not_eq_true', Bool.not_eq_false', beq_iff_eq, beq_eq_false_iff_ne, bne_iff_ne, bne_eq_false_iff_eq, ne_eq] at hc
  · have hg := ints_get' i.s i.i (by omega)
    have hlt : i.i < 8 := by omega
    simp (config := { maxSteps := 2000000 }) (disch := first | omega | assumption | (simp only [List.length_cons, List.length_nil, Nat.zero_add, Nat.reduceAdd]; done) | (simp only [IntKind.wrap_i64]; omega)) only [vop_move, vcallee_move, vop_assign, vcallee_assign, vop_load, vcallee_load, vop_store, vcallee_store, vop_binOp, vcallee_binOp, vop_indexAddr, vcallee_indexAddr, vop_builtin, vcallee_builtin, strip_pv, strip_ptr, optV_none, ev_tmp, ev_const, ofConst_int, put_some, put_none, at_mk, fits_some, fits_none, ↓look_cons, ↓vlook_t, ↓vlook_f, guard_none, ↓vrun_nil, ↓code_skip, ↓code_region, ↓code_seq, ↓code_block, ↓onNormal_normal, ↓onBlock_normal, load_ptr, vld_one, store_ptr, vst_one, blk_zero, blk_succ, set_zero, set_succ, one_pv, iaddr_ptr, viap_some, bin_int, int_add, bi_min, bi_max, evG_eq, ↓vrun_cons, ↓run1_some, ↓run2_none, ↓run3_some, List.map_nil, List.map_cons, List.map_nil, Option.map_some, ↓reduceIte, Nat.reduceLT, Nat.reduceBEq, Int.reduceLT, Int.reduceBEq, Int.toNat_natCast, Nat.zero_add, Nat.mul_one, true_and, and_self, Bool.true_and, Bool.and_self, cond_true, Bool.cond_self, beq_self_eq_true, Try.vt3, Try.velem26, wrap_i64_in, dec_t, ints_len, his, hg, hlt, ints_set]
    refine ⟨⟨i.i + 1, hlt, i.s.set i.i (cl3 (i.s.getD i.i 0)), by rw [List.length_set]; exact his, fun j hj => ?_⟩, by show 8 - (i.i + 1) < 8 - i.i; omega, (by refine ⟨rfl, rfl, by simp, ?_, ?_, .inl rfl⟩ <;> (repeat' apply And.intro) <;> first | rfl | trivial)⟩
    rw [getD_set _ _ _ _ (by omega)]
    split
    · exact cl3_bd _
    · exact i.ok j (by omega)
  · have hg := ints_get' i.s (kd % 8).toNat (by omega)
    have hlt : (kd % 8).toNat < 8 := by omega
    have hl2 : (i.s.set (kd % 8).toNat (cl1 (i.s.getD (kd % 8).toNat 0))).length = 8 := by rw [List.length_set]; exact his
    have hok : ∀ j, j < 8 → 0 ≤ (i.s.set (kd % 8).toNat (cl1 (i.s.getD (kd % 8).toNat 0))).getD j 0 ∧ (i.s.set (kd % 8).toNat (cl1 (i.s.getD (kd % 8).toNat 0))).getD j 0 ≤ 3 := fun j hj => by
      rw [getD_set _ _ _ _ (by omega)]
      have h1 := i.ok (kd % 8).toNat (by omega)
      have h2 := i.ok j (by omega)
      split
      · unfold cl1; split <;> omega
      · exact h2
    have hk1 : 1 ≤ (i.s.set (kd % 8).toNat (cl1 (i.s.getD (kd % 8).toNat 0))).getD (kd % 8).toNat 0 := by
      rw [getD_set _ _ _ _ (by omega), if_pos rfl]; unfold cl1; split <;> omega
    have hcl : (if 1 > i.s.getD (kd % 8).toNat 0 then 1 else i.s.getD (kd % 8).toNat 0) = cl1 (i.s.getD (kd % 8).toNat 0) := rfl
    simp (config := { maxSteps := 2000000 }) (disch := first | omega | assumption | (simp only [List.length_cons, List.length_nil, Nat.zero_add, Nat.reduceAdd]; done) | (simp only [IntKind.wrap_i64]; omega)) only [vop_move, vcallee_move, vop_load, vcallee_load, vop_store, vcallee_store, vop_indexAddr, vcallee_indexAddr, vop_builtin, vcallee_builtin, vcallee_value, vcal_fn, strip_pv, strip_ptr, strip_agg, strip_fn, optV_none, ev_tmp, ev_const, ev_func, ofConst_int, put_some, put_none, at_mk, fits_some, fits_none, ↓look_cons, ↓vlook_t, ↓vlook_f, guard_none, ↓vrun_nil, ↓code_region, ↓code_seq, ↓code_exit, ↓onNormal_normal, ↓onNormal_exit, ↓onBlock_exit, load_ptr, vld_one, vld_agg, store_ptr, vst_one, blk_zero, blk_succ, set_zero, set_succ, one_pv, iaddr_ptr, viap_some, bi_max, evG_eq, ↓vrun_cons, ↓run1_some, ↓run2_none, ↓run2_some, ↓run3_some, ↓vcg_none, List.map_nil, List.map_cons, List.map_nil, List.nil_append, List.append_nil, List.drop_zero, Option.map_some, ↓reduceIte, Nat.reduceLT, Nat.reduceBEq, Int.reduceLT, Int.reduceBEq, Nat.zero_add, Nat.mul_one, true_and, and_self, Bool.true_and, Bool.and_self, cond_true, Bool.cond_self, beq_self_eq_true, Nat.le_refl, Try.vt3, Try.vt26, Try.velem26, dec_t, dec_f, ints_len, his, hg, hlt, ints_set, hcl, hl2, ints_take8 _ hl2]
    generalize i.s.set (kd % 8).toNat (cl1 (i.s.getD (kd % 8).toNat 0)) = s' at *
    refine vc_pure (new_v s' hl2) (by simp only [DV.nums, DV.nums.go, Bool.and_self, ints_nums]) ?_
    have hv := newQ_ok s' hl2 hok
    simp (config := { maxSteps := 2000000 }) (disch := first | omega | assumption | (simp only [List.length_cons, List.length_nil, Nat.zero_add, Nat.reduceAdd]; done) | (simp only [IntKind.wrap_i64]; omega)) only [vop_move, vcallee_move, vop_assign, vcallee_assign, vop_alloc, vcallee_alloc, vop_store, vcallee_store, vop_binOp, vcallee_binOp, vop_extract, vcallee_extract, strip_pv, strip_ptr, strip_agg, strip_tup, optV_none, ev_tmp, ev_const, ofConst_int, put_some, put_none, at_mk, fits_some, fits_none, ↓look_cons, ↓vlook_t, ↓vlook_f, guard_none, ↓vrun_nil, ↓code_skip, ↓code_region, ↓code_seq, ↓code_block, ↓code_loop, ↓onNormal_normal, store_ptr, vst_agg, blk_zero, blk_succ, set_zero, set_succ, alloc_eq, val1_some, allOne_nil, allOne_cons, one_pv, bin_int, int_neq, ext_tup, evG_eq, ↓vrun_cons, ↓run1_some, ↓run2_none, ↓run3_some, ↓runK_eq, ↓code_cond, ↓vtest_bool, ↓vbr_false, V.splice, List.getElem?_cons_zero, List.getElem?_cons_succ, List.length_cons, List.length_nil, List.cons_append, List.nil_append, List.append_nil, List.take_zero, List.drop_succ_cons, List.drop_nil, Option.map_some, ↓reduceIte, Nat.reduceAdd, Nat.reduceLT, Nat.reduceBEq, Int.reduceLT, Int.reduceAdd, Int.reduceBEq, Nat.zero_add, true_and, and_self, Bool.true_and, Bool.and_self, cond_true, Bool.cond_self, beq_self_eq_true, Nat.le_refl, Try.vt29, Try.vzero29, dec_t, int_bne_f, qc_len, qc_one, hv]
    have hr := rem_le (newQ s' hl2) hv (kd % 8 + 1)
    refine vloop (fun i : I6 s' (kd % 8 + 1) => ⟨104, 0, [(12, .int .i64 i.n), (11, .int .i64 i.since), (9, .ptr 2 0), (7, .ptr 1 0), (6, .int .i64 (kd % 8)), (5, .ptr 0 0), (4, .bool false)], [cb i.c, ⟨26, true, ints s'⟩, ⟨29, true, qc i.q⟩]⟩) (fun i => 80 - i.n) ⟨0, by omega, c, newQ s' hl2, rfl, hv, 0, by omega, by have : (newQ s' hl2).sh = s' := rfl; rw [this] at hr; omega⟩ (by refine ⟨rfl, rfl, by simp, ?_, ?_, .inl rfl⟩ <;> (repeat' apply And.intro) <;> first | rfl | trivial) ?_
    have hsb := sum_bd s' (valid_all (newQ s' hl2) hv)
    rw [hl2] at hsb
    intro j
    have hj := j.hn
    simp (config := { maxSteps := 2000000 }) (disch := first | omega | assumption | (simp only [List.length_cons, List.length_nil, Nat.zero_add, Nat.reduceAdd]; done) | (simp only [IntKind.wrap_i64]; omega)) only [vop_move, vcallee_move, vop_binOp, vcallee_binOp, strip_pv, optV_none, ev_tmp, ev_const, ofConst_int, put_some, at_mk, fits_some, ↓look_cons, ↓vlook_t, guard_none, ↓vrun_nil, ↓code_region, ↓code_seq, ↓onNormal_normal, bin_int, int_lss, evG_eq, ↓vrun_cons, ↓run1_some, ↓run2_none, ↓run3_some, ↓code_cond, ↓vtest_bool, Option.map_some, Nat.reduceLT, Int.reduceLT, true_and, Bool.true_and, Bool.cond_self, beq_self_eq_true, dec_t]
    refine vbr_split (fun hcj => ?_) (fun hcj => ?_) <;> simp only [decide_eq_true_eq, decide_eq_false_iff_not, Bool.or_eq_true, Bool.and_eq_true, Bool.or_eq_false_iff, Bool.and_eq_false_imp, Bool.not_eq_true', Bool.not_eq_false', beq_iff_eq, beq_eq_false_iff_ne, bne_iff_ne, bne_eq_false_iff_eq, ne_eq] at hcj
    · simp (config := { maxSteps := 2000000 }) (disch := first | omega | assumption | (simp only [List.length_cons, List.length_nil, Nat.zero_add, Nat.reduceAdd]; done) | (simp only [IntKind.wrap_i64]; omega)) only [↓code_skip, ↓code_draw, ↓code_seq, ↓code_block, ↓onNormal_normal, dec_t]
      refine vspine [0, 1, 3, 4, 5] [⟨[6, 14, 15], [], 2, [0, 3, 4, 5], []⟩, ⟨[6, 14, 15], [6], 7, [0, 1, 3, 4, 5], []⟩, ⟨[14, 15], [], 8, [1, 3, 4, 5], [9, 10, 11, 12, 13]⟩, ⟨[14, 15], [14], 16, [11, 12, 13], []⟩, ⟨[15], [15], 17, [12, 13], []⟩, ⟨[], [], 18, [13], []⟩, ⟨[], [], 19, [], []⟩] (by kernel_rfl) (by kernel_rfl) ?_
      simp (config := { maxSteps := 2000000 }) (disch := first | omega | assumption | (simp only [List.length_cons, List.length_nil, Nat.zero_add, Nat.reduceAdd]; done) | (simp only [IntKind.wrap_i64]; omega)) only [vop_move, vcallee_move, vop_alloc, vop_build, vcallee_build, vop_buildSlice, vop_load, vcallee_load, vop_binOp, vcallee_binOp, vcallee_value, vcal_fn, strip_pv, strip_ptr, strip_agg, strip_fn, optV_none, ev_tmp, ev_const, ev_func, ofConst_int, put_some, at_mk, fits_some, ↓look_cons, ↓vlook_t, ↓vlook_f, guard_none, ↓vrun_nil, load_ptr, vld_agg, blk_zero, blk_succ, alloc_eq, val1_some, allOne_nil, allOne_cons, one_pv, bin_int, int_add, parts_nil, parts_cons, evG_eq, ↓vrun_cons, ↓run1_some, ↓run2_none, ↓run2_some, ↓run3_some, ↓vcg_none, List.map_nil, dcells, vbuild, vfill, vbuildSlice, V.mk, V.splice, List.toList_toArray, List.getElem?_cons_zero, List.getElem?_cons_succ, List.length_cons, List.length_nil, List.map_cons, List.map_nil, List.cons_append, List.nil_append, List.append_nil, List.take_zero, List.drop_succ_cons, List.drop_zero, List.drop_nil, Option.map_some, ↓reduceIte, Nat.reduceAdd, Nat.reduceLT, Nat.reduceLeDiff, Nat.reduceBEq, Int.reduceLT, Int.reduceAdd, Int.reduceBEq, Nat.zero_add, Nat.zero_mul, Nat.one_mul, true_and, and_self, Bool.true_and, Bool.and_self, Bool.cond_self, beq_self_eq_true, Nat.le_refl, ↓vsp_cons, vspC_true, vspR_eq, pick_nil, pick_cons, pickO_some, creas_nil, creas_cons, creaOk_eq, creaM_ptr, creaM_own, creaOk2_some, Op.operands, Try.vt29, Try.vzero29, Try.velem33, Try.vplaces36, Try.vzero36, wrap_i64_in, dec_t, DV.nums, DV.nums.go, qc_len, qc_take10]
      refine vc_offersO (k := 0) (c := j.c) rfl ?_
      intro c' w hw hwk
      have hkk : 1 ≤ kd % 8 + 1 ∧ kd % 8 + 1 ≤ 8 := by omega
      refine ⟨fun hw0 => ?_, ?_⟩
      · simp (config := { maxSteps := 2000000 }) (disch := first | omega | assumption | (simp only [List.length_cons, List.length_nil, Nat.zero_add, Nat.reduceAdd]; done) | (simp only [IntKind.wrap_i64]; omega)) only [foot_move, vop_alloc, foot_build, vop_buildSlice, vcallee_buildSlice, foot_binOp, foot_load, vop_builtin, vcallee_builtin, vcallee_value, vcal_fn, ptrNo_ptr, strip_pv, strip_ptr, strip_own, strip_agg, strip_fn, optV_none, ev_tmp, ev_func, put_some, at_mk, fits_some, ↓look_cons, ↓vlook_t, ↓vlook_f, guard_none, ↓vrun_nil, blk_zero, blk_succ, alloc_eq, val1_some, allOne_nil, allOne_cons, one_pv, bi_append, parts_nil, parts_cons, evG_eq, ↓vrun_cons, ↓run1_some, ↓run2_none, ↓run2_some, ↓run3_some, ↓runK_eq, ↓vcg_none, pvs, List.flatten_nil, List.map_nil, dcells, vfill, vbuildSlice, V.mk, vsrc, vbase, vappend, V.splice, List.toList_toArray, List.getElem?_cons_zero, List.getElem?_cons_succ, List.getElem?_nil, List.length_cons, List.length_nil, List.map_cons, List.map_nil, List.cons_append, List.nil_append, List.append_nil, List.take_succ_cons, List.take_zero, List.take_nil, List.drop_succ_cons, List.drop_zero, List.drop_nil, List.set_cons_zero, Option.map_some, Option.map_none, ↓reduceIte, reduceCtorEq, Nat.reduceAdd, Nat.reduceLT, Nat.reduceLeDiff, Nat.reduceBEq, Int.reduceLT, Int.reduceAdd, Int.reduceBEq, Nat.zero_add, Nat.zero_mul, Nat.one_mul, true_and, and_self, or_false, or_self, Bool.or_false, Bool.true_and, Bool.or_self, Bool.and_self, cond_true, beq_self_eq_true, Nat.le_refl, ↓vsp_cons, ↓vspK_eq, vspC_true, vspR_eq, pick_nil, pick_cons, pickO_some, creas_nil, creas_cons, creaOk_eq, creaM_ptr, creaM_own, creaOk2_some, agree_nil, agree_cons, agree1_some, sameAt_nil, sameAt_cons, Op.operands, Try.vzero29, Try.velem33, Try.notInt33, Try.vzero36, Try.bytes36, dec_t, DV.nums, DV.nums.go]
        refine vc_lend (args0 := [.agg (qc j.q), .pv (.sl (sw [⟨kd % 8 + 1, 0⟩]))]) (next_v' _ _ (by simp)) (frz_two _ rfl) (d_flat _) ?_
        have hq := j.hq
        have hsk : 0 < shareAt j.q (kd % 8 + 1) := by rw [shareAt, hq, show (kd % 8 + 1 - 1).toNat = (kd % 8).toNat by omega]; omega
        obtain ⟨f1, f2, f3, f4, f5, f6, f7⟩ := fair_step j.q [⟨kd % 8 + 1, 0⟩] j.hv (kd % 8 + 1) hkk hsk (by simp [has])
        generalize hx : next j.q [⟨kd % 8 + 1, 0⟩] = x at *
        have hsx : shareAt j.q x.w.kind = s'.getD (x.w.kind - 1).toNat 0 := by rw [shareAt, hq]
        rw [hsx] at f4
        have hg4 := ints_get' s' (x.w.kind - 1).toNat (by omega)
        have hrx := rem_le x.q f5 (kd % 8 + 1)
        have hrj := rem_le j.q j.hv (kd % 8 + 1)
        rw [f6, hq] at hrx
        rw [hq] at hrj
        have hsj := j.hs
        have h0j := j.h0
        have hz4 : (s'.getD (x.w.kind - 1).toNat 0 == 0) = false := by rw [beq_eq_false_iff_ne]; omega
        simp (config := { maxSteps := 2000000 }) (disch := first | omega | assumption | (simp only [List.length_cons, List.length_nil, Nat.zero_add, Nat.reduceAdd]; done) | (simp only [IntKind.wrap_i64]; omega)) only [vop_move, vcallee_move, foot_move, vop_assign, vcallee_assign, vop_pick, vcallee_pick, vop_alloc, vcallee_alloc, foot_build, vop_load, vcallee_load, vop_store, vcallee_store, vop_binOp, vcallee_binOp, foot_binOp, vop_unOp, vcallee_unOp, vop_fieldAddr, vcallee_fieldAddr, vop_indexAddr, vcallee_indexAddr, vop_extract, vcallee_extract, foot_extract, vpick_bool, strip_pv, strip_ptr, strip_agg, strip_tup, strip_opt, vstr_true, optV_none, optV_some, pickV_bool, ev_tmp, ev_const, ofConst_int, ofConst_bool, put_some, put_none, at_mk, fits_some, fits_none, ↓look_cons, ↓vlook_t, ↓vlook_f, guard_none, guard_some, vgof_bool, ↓vrun_nil, ↓code_skip, ↓code_region, ↓code_seq, ↓onNormal_normal, load_ptr, vld_one, vld_agg, store_ptr, vst_agg, blk_zero, blk_succ, set_zero, set_succ, alloc_eq, val1_some, allOne_nil, allOne_cons, one_pv, faddr_ptr, vfap_some, iaddr_ptr, viap_some, bin_int, int_add, int_sub, int_eql, int_neq, int_lss, int_gtr, un_not, ext_tup, evG_eq, ↓vrun_cons, ↓run1_some, ↓run2_none, ↓run3_some, ↓runK_eq, ↓code_cond, ↓vtest_bool, ↓vbr_false, List.map_nil, V.splice, List.toList_toArray, List.getElem?_cons_zero, List.getElem?_cons_succ, List.length_cons, List.length_nil, List.map_nil, List.cons_append, List.nil_append, List.append_nil, List.take_zero, List.drop_succ_cons, List.drop_zero, List.drop_nil, Option.map_some, Option.bind_some, ↓reduceIte, reduceCtorEq, Nat.reduceAdd, Nat.reduceLT, Nat.reduceBEq, Int.reduceLT, Int.reduceAdd, Int.reduceBEq, Nat.zero_add, Nat.add_zero, Nat.mul_one, true_and, and_self, or_true, Bool.not_true, Bool.not_false, Bool.or_true, Bool.true_and, Bool.and_self, cond_true, cond_false, Bool.cond_self, beq_self_eq_true, Nat.le_refl, ↓vsp_nil, ↓vsp_cons, ↓vspK_eq, vspC_true, vspR_eq, pick_nil, pick_cons, pickO_some, creas_nil, creas_cons, creaOk_eq, creaM_ptr, creaOk2_some, agree_nil, agree_cons, agree1_some, sameAt_nil, Op.operands, Try.vt3, Try.velem26, Try.vt29, Try.vzero29, Try.vt36, Try.vfield36x0, Try.vzero36, wrap_i64_in, dec_t, dec_f, int_bne_f, DV.nums, DV.nums.go, Out.d, qc_len, qc_one, qc_take10, qc_drop10, f1, f2, wc, hg4, hz4]
        refine vbr_split (fun hk4 => ?_) (fun hk4 => ?_) <;> simp only [decide_eq_true_eq, decide_eq_false_iff_not, Bool.or_eq_true, Bool.and_eq_true, Bool.or_eq_false_iff, Bool.and_eq_false_imp, Bool.not_eq_true', Bool.not_eq_false', beq_iff_eq, beq_eq_false_iff_ne, bne_iff_ne, bne_eq_false_iff_eq, ne_eq] at hk4
        · simp (config := { maxSteps := 2000000 }) (disch := first | omega | assumption | (simp only [List.length_cons, List.length_nil, Nat.zero_add, Nat.reduceAdd]; done) | (simp only [IntKind.wrap_i64]; omega)) only [vop_move, vcallee_move, vop_assign, vcallee_assign, vop_load, vcallee_load, vcallee_value, vcal_fn, strip_pv, strip_ptr, strip_agg, strip_fn, optV_none, ev_tmp, ev_const, ev_func, ofConst_int, put_some, at_mk, fits_some, ↓look_cons, ↓vlook_t, ↓vlook_f, guard_none, ↓vrun_nil, ↓code_region, ↓code_seq, ↓onNormal_normal, load_ptr, vld_agg, blk_zero, blk_succ, evG_eq, ↓vrun_cons, ↓run1_some, ↓run2_none, ↓run2_some, ↓run3_some, ↓vcg_none, List.map_nil, List.map_cons, List.map_nil, List.nil_append, List.append_nil, List.drop_zero, Option.map_some, ↓reduceIte, Nat.reduceLT, Nat.reduceBEq, Int.reduceLT, Int.reduceBEq, Nat.zero_add, true_and, Bool.true_and, Bool.cond_self, beq_self_eq_true, Nat.le_refl, Try.vt29, dec_t, int_beq_t, qc_len, qc_take10]
          refine vc_pure (round_v x.q) (by simp only [DV.nums, DV.nums.go, Bool.and_self, qc_nums]) ?_
          rw [f5, if_pos rfl, f6, hq]
          have hle0 : ¬ s'.sum < 0 := by omega
          simp (config := { maxSteps := 2000000 }) (disch := first | omega | assumption | (simp only [List.length_cons, List.length_nil, Nat.zero_add, Nat.reduceAdd]; done) | (simp only [IntKind.wrap_i64]; omega)) only [vop_move, vcallee_move, vop_assign, vcallee_assign, vop_binOp, vcallee_binOp, strip_pv, optV_none, ev_tmp, ev_const, ofConst_int, put_some, at_mk, fits_some, ↓look_cons, ↓vlook_t, ↓vlook_f, guard_none, ↓vrun_nil, ↓code_skip, ↓code_region, ↓onNormal_normal, ↓onBlock_normal, bin_int, int_add, int_gtr, evG_eq, ↓vrun_cons, ↓run1_some, ↓run2_none, ↓run3_some, ↓runK_eq, ↓code_cond, ↓vtest_bool, ↓vbr_false, Option.map_some, Nat.reduceLT, Nat.reduceBEq, Int.reduceLT, Int.reduceBEq, true_and, Bool.true_and, Bool.cond_self, beq_self_eq_true, wrap_i64_in, dec_t, dec_f]
          exact ⟨⟨j.n + 1, by omega, c', x.q, f6.trans hq, f5, 0, by omega, by omega⟩, by show 80 - (j.n + 1) < 80 - j.n; omega, (by refine ⟨rfl, rfl, by simp, ?_, ?_, .inr ⟨?_, ?_⟩⟩ <;> (repeat' apply And.intro) <;> first | rfl | trivial | (intro _; first | rfl | apply qc_refs | apply bls_refs | apply ints_refs))⟩
        · simp (config := { maxSteps := 2000000 }) (disch := first | omega | assumption | (simp only [List.length_cons, List.length_nil, Nat.zero_add, Nat.reduceAdd]; done) | (simp only [IntKind.wrap_i64]; omega)) only [vop_move, vcallee_move, vop_load, vcallee_load, vcallee_value, vcal_fn, strip_pv, strip_ptr, strip_agg, strip_fn, optV_none, ev_tmp, ev_func, put_some, at_mk, fits_some, ↓look_cons, ↓vlook_t, ↓vlook_f, guard_none, ↓code_skip, ↓code_region, ↓code_seq, ↓onNormal_normal, load_ptr, vld_agg, blk_zero, blk_succ, evG_eq, ↓vrun_cons, ↓run1_some, ↓run2_none, ↓run2_some, ↓run3_some, ↓vcg_none, List.map_nil, List.map_cons, List.map_nil, List.nil_append, List.append_nil, List.drop_zero, Option.map_some, ↓reduceIte, Nat.reduceLT, Nat.reduceBEq, Int.reduceLT, Int.reduceBEq, Nat.zero_add, true_and, Bool.true_and, Bool.cond_self, beq_self_eq_true, Nat.le_refl, Try.vt29, dec_t, int_beq_f, qc_len, qc_take10]
          refine vc_pure (round_v x.q) (by simp only [DV.nums, DV.nums.go, Bool.and_self, qc_nums]) ?_
          rw [f5, if_pos rfl, f6, hq]
          have h7 := f7 hk4
          have hle0 : ¬ s'.sum < j.since + 1 := by omega
          simp (config := { maxSteps := 2000000 }) (disch := first | omega | assumption | (simp only [List.length_cons, List.length_nil, Nat.zero_add, Nat.reduceAdd]; done) | (simp only [IntKind.wrap_i64]; omega)) only [vop_move, vcallee_move, vop_assign, vcallee_assign, vop_binOp, vcallee_binOp, strip_pv, optV_none, ev_tmp, ev_const, ofConst_int, put_some, at_mk, fits_some, ↓look_cons, ↓vlook_t, ↓vlook_f, guard_none, ↓vrun_nil, ↓code_skip, ↓code_region, ↓onNormal_normal, ↓onBlock_normal, bin_int, int_add, int_gtr, evG_eq, ↓vrun_cons, ↓run1_some, ↓run2_none, ↓run3_some, ↓runK_eq, ↓code_cond, ↓vtest_bool, ↓vbr_false, Option.map_some, Nat.reduceLT, Nat.reduceBEq, Int.reduceLT, Int.reduceBEq, true_and, Bool.true_and, Bool.cond_self, beq_self_eq_true, wrap_i64_in, dec_t, dec_f]
          exact ⟨⟨j.n + 1, by omega, c', x.q, f6.trans hq, f5, j.since + 1, by omega, by omega⟩, by show 80 - (j.n + 1) < 80 - j.n; omega, (by refine ⟨rfl, rfl, by simp, ?_, ?_, .inr ⟨?_, ?_⟩⟩ <;> (repeat' apply And.intro) <;> first | rfl | trivial | (intro _; first | rfl | apply qc_refs | apply bls_refs | apply ints_refs))⟩
      · have hlen := wcs_len w
        have ht : (wcs w).take (w.length * 2) = wcs w := List.take_of_length_le (by omega)
        have hle : w.length * 2 ≤ 2 * w.length := by omega
        have hby : (w.length + 1) * 16 ≤ 140737488355328 := by omega
        simp (config := { maxSteps := 2000000 }) (disch := first | omega | assumption | (simp only [List.length_cons, List.length_nil, Nat.zero_add, Nat.reduceAdd]; done) | (simp only [IntKind.wrap_i64]; omega)) only [foot_move, vop_alloc, foot_build, vop_buildSlice, vcallee_buildSlice, foot_binOp, foot_load, vop_builtin, vcallee_builtin, vcallee_value, vcal_fn, ptrNo_ptr, strip_ptr, strip_own, strip_agg, strip_fn, optV_none, ev_tmp, ev_func, put_some, at_mk, fits_some, ↓look_cons, ↓vlook_t, ↓vlook_f, guard_none, ↓vrun_nil, blk_zero, blk_succ, alloc_eq, val1_some, allOne_nil, allOne_cons, one_pv, bi_append, parts_nil, parts_cons, evG_eq, ↓vrun_cons, ↓run1_some, ↓run2_none, ↓run2_some, ↓run3_some, ↓runK_eq, ↓vcg_none, List.map_nil, dcells, vfill, vbuildSlice, V.mk, vsrc, vbase, vappend, V.kill, V.splice, List.toList_toArray, List.getElem?_cons_zero, List.getElem?_cons_succ, List.length_cons, List.length_nil, List.map_cons, List.map_nil, List.cons_append, List.nil_append, List.append_nil, List.take_succ_cons, List.take_zero, List.take_nil, List.drop_succ_cons, List.drop_zero, List.drop_nil, List.set_cons_zero, List.set_cons_succ, Option.map_some, ↓reduceIte, Nat.reduceAdd, Nat.reduceLT, Nat.reduceLeDiff, Nat.reduceBEq, Int.reduceLT, Int.reduceAdd, Int.reduceBEq, Nat.zero_add, Nat.zero_mul, Nat.one_mul, true_and, and_self, Bool.true_and, Bool.and_self, cond_true, beq_self_eq_true, Nat.le_refl, ↓vsp_cons, ↓vspK_eq, vspC_true, vspR_eq, pick_nil, pick_cons, pickO_some, creas_nil, creas_cons, creaOk_eq, creaM_ptr, creaM_own, creaOk2_some, agree_nil, agree_cons, agree1_some, sameAt_nil, sameAt_cons, Op.operands, Try.vzero29, Try.velem33, Try.notInt33, Try.vzero36, Try.bytes36, dec_t, DV.nums, DV.nums.go, hlen, ht, hle, hby]
        refine vc_lend (args0 := [.agg (qc j.q), .pv (.sl (sw (w ++ [⟨kd % 8 + 1, 0⟩])))]) (next_v' _ _ (by simp; omega)) (frz_two _ ?_) (d_flat _) ?_
        · have hb : blkCells [cb c', ⟨26, true, ints s'⟩, ⟨29, true, qc j.q⟩, ⟨36, false, []⟩, ⟨36, true, [.int .i64 (kd % 8 + 1), .int .i64 0]⟩, ⟨36, true, wcs w ++ [.int .i64 (kd % 8 + 1), .int .i64 0]⟩] 5 = some (wcs (w ++ [⟨kd % 8 + 1, 0⟩])) := by
            rw [← wcs_app]; rfl
          have hl3 : (w ++ [(⟨kd % 8 + 1, 0⟩ : W)]).length = w.length + 1 := by simp
          show frz1 0 _ (.own 5 2 0 (w.length + 1)) = _
          have e : frzP 0 [cb c', ⟨26, true, ints s'⟩, ⟨29, true, qc j.q⟩, ⟨36, false, []⟩, ⟨36, true, [.int .i64 (kd % 8 + 1), .int .i64 0]⟩, ⟨36, true, wcs w ++ [.int .i64 (kd % 8 + 1), .int .i64 0]⟩] 4 (.own 5 2 0 (w.length + 1)) = some (.sl (sw (w ++ [⟨kd % 8 + 1, 0⟩]))) := by
            rw [frzP, if_neg (by omega), hb]
            show (if 0 + (w.length + 1) * 2 ≤ _ ∧ 0 < 2 then _ else _) = _
            rw [if_pos ⟨by rw [wcs_len, hl3]; omega, by omega⟩, List.drop_zero, ← hl3, wcs_frz]; rfl
          rw [frz1, if_neg (by omega)]
          exact congrArg (Option.map DV.pv) e
        have hq := j.hq
        have hsk : 0 < shareAt j.q (kd % 8 + 1) := by rw [shareAt, hq, show (kd % 8 + 1 - 1).toNat = (kd % 8).toNat by omega]; omega
        obtain ⟨f1, f2, f3, f4, f5, f6, f7⟩ := fair_step j.q (w ++ [⟨kd % 8 + 1, 0⟩]) j.hv (kd % 8 + 1) hkk hsk (by simp [has])
        generalize hx : next j.q (w ++ [⟨kd % 8 + 1, 0⟩]) = x at *
        have hsx : shareAt j.q x.w.kind = s'.getD (x.w.kind - 1).toNat 0 := by rw [shareAt, hq]
        rw [hsx] at f4
        have hg4 := ints_get' s' (x.w.kind - 1).toNat (by omega)
        have hrx := rem_le x.q f5 (kd % 8 + 1)
        have hrj := rem_le j.q j.hv (kd % 8 + 1)
        rw [f6, hq] at hrx
        rw [hq] at hrj
        have hsj := j.hs
        have h0j := j.h0
        have hz4 : (s'.getD (x.w.kind - 1).toNat 0 == 0) = false := by rw [beq_eq_false_iff_ne]; omega
        simp (config := { maxSteps := 2000000 }) (disch := first | omega | assumption | (simp only [List.length_cons, List.length_nil, Nat.zero_add, Nat.reduceAdd]; done) | (simp only [IntKind.wrap_i64]; omega)) only [vop_move, vcallee_move, foot_move, vop_assign, vcallee_assign, vop_pick, vcallee_pick, vop_alloc, vcallee_alloc, foot_build, vop_load, vcallee_load, vop_store, vcallee_store, vop_binOp, vcallee_binOp, foot_binOp, vop_unOp, vcallee_unOp, vop_fieldAddr, vcallee_fieldAddr, vop_indexAddr, vcallee_indexAddr, vop_extract, vcallee_extract, foot_extract, vpick_bool, strip_pv, strip_ptr, strip_agg, strip_tup, strip_opt, vstr_true, optV_none, optV_some, pickV_bool, ev_tmp, ev_const, ofConst_int, ofConst_bool, put_some, put_none, at_mk, fits_some, fits_none, ↓look_cons, ↓vlook_t, ↓vlook_f, guard_none, guard_some, vgof_bool, ↓vrun_nil, ↓code_skip, ↓code_region, ↓code_seq, ↓onNormal_normal, load_ptr, vld_one, vld_agg, store_ptr, vst_agg, blk_zero, blk_succ, set_zero, set_succ, alloc_eq, val1_some, allOne_nil, allOne_cons, one_pv, faddr_ptr, vfap_some, iaddr_ptr, viap_some, bin_int, int_add, int_sub, int_eql, int_neq, int_lss, int_gtr, un_not, ext_tup, evG_eq, ↓vrun_cons, ↓run1_some, ↓run2_none, ↓run3_some, ↓runK_eq, ↓code_cond, ↓vtest_bool, ↓vbr_false, List.map_nil, V.splice, List.toList_toArray, List.getElem?_cons_zero, List.getElem?_cons_succ, List.length_cons, List.length_nil, List.map_nil, List.cons_append, List.nil_append, List.append_nil, List.take_zero, List.drop_succ_cons, List.drop_zero, List.drop_nil, Option.map_some, Option.bind_some, ↓reduceIte, reduceCtorEq, Nat.reduceAdd, Nat.reduceLT, Nat.reduceBEq, Int.reduceLT, Int.reduceAdd, Int.reduceBEq, Nat.zero_add, Nat.add_zero, Nat.mul_one, true_and, and_self, or_true, Bool.not_true, Bool.not_false, Bool.or_true, Bool.true_and, Bool.and_self, cond_true, cond_false, Bool.cond_self, beq_self_eq_true, Nat.le_refl, ↓vsp_nil, ↓vsp_cons, ↓vspK_eq, vspC_true, vspR_eq, pick_nil, pick_cons, pickO_some, creas_nil, creas_cons, creaOk_eq, creaM_ptr, creaOk2_some, agree_nil, agree_cons, agree1_some, sameAt_nil, Op.operands, Try.vt3, Try.velem26, Try.vt29, Try.vzero29, Try.vt36, Try.vfield36x0, Try.vzero36, wrap_i64_in, dec_t, dec_f, int_bne_f, DV.nums, DV.nums.go, Out.d, qc_len, qc_one, qc_take10, qc_drop10, f1, f2, wc, hg4, hz4]
        refine vbr_split (fun hk4 => ?_) (fun hk4 => ?_) <;> simp only [decide_eq_true_eq, decide_eq_false_iff_not, Bool.or_eq_true, Bool.and_eq_true, Bool.or_eq_false_iff, Bool.and_eq_false_imp, Bool.not_eq_true', Bool.not_eq_false', beq_iff_eq, beq_eq_false_iff_ne, bne_iff_ne, bne_eq_false_iff_eq, ne_eq] at hk4
        · simp (config := { maxSteps := 2000000 }) (disch := first | omega | assumption | (simp only [List.length_cons, List.length_nil, Nat.zero_add, Nat.reduceAdd]; done) | (simp only [IntKind.wrap_i64]; omega)) only [vop_move, vcallee_move, vop_assign, vcallee_assign, vop_load, vcallee_load, vcallee_value, vcal_fn, strip_pv, strip_ptr, strip_agg, strip_fn, optV_none, ev_tmp, ev_const, ev_func, ofConst_int, put_some, at_mk, fits_some, ↓look_cons, ↓vlook_t, ↓vlook_f, guard_none, ↓vrun_nil, ↓code_region, ↓code_seq, ↓onNormal_normal, load_ptr, vld_agg, blk_zero, blk_succ, evG_eq, ↓vrun_cons, ↓run1_some, ↓run2_none, ↓run2_some, ↓run3_some, ↓vcg_none, List.map_nil, List.map_cons, List.map_nil, List.nil_append, List.append_nil, List.drop_zero, Option.map_some, ↓reduceIte, Nat.reduceLT, Nat.reduceBEq, Int.reduceLT, Int.reduceBEq, Nat.zero_add, true_and, Bool.true_and, Bool.cond_self, beq_self_eq_true, Nat.le_refl, Try.vt29, dec_t, int_beq_t, qc_len, qc_take10]
          refine vc_pure (round_v x.q) (by simp only [DV.nums, DV.nums.go, Bool.and_self, qc_nums]) ?_
          rw [f5, if_pos rfl, f6, hq]
          have hle0 : ¬ s'.sum < 0 := by omega
          simp (config := { maxSteps := 2000000 }) (disch := first | omega | assumption | (simp only [List.length_cons, List.length_nil, Nat.zero_add, Nat.reduceAdd]; done) | (simp only [IntKind.wrap_i64]; omega)) only [vop_move, vcallee_move, vop_assign, vcallee_assign, vop_binOp, vcallee_binOp, strip_pv, optV_none, ev_tmp, ev_const, ofConst_int, put_some, at_mk, fits_some, ↓look_cons, ↓vlook_t, ↓vlook_f, guard_none, ↓vrun_nil, ↓code_skip, ↓code_region, ↓onNormal_normal, ↓onBlock_normal, bin_int, int_add, int_gtr, evG_eq, ↓vrun_cons, ↓run1_some, ↓run2_none, ↓run3_some, ↓runK_eq, ↓code_cond, ↓vtest_bool, ↓vbr_false, Option.map_some, Nat.reduceLT, Nat.reduceBEq, Int.reduceLT, Int.reduceBEq, true_and, Bool.true_and, Bool.cond_self, beq_self_eq_true, wrap_i64_in, dec_t, dec_f]
          exact ⟨⟨j.n + 1, by omega, c', x.q, f6.trans hq, f5, 0, by omega, by omega⟩, by show 80 - (j.n + 1) < 80 - j.n; omega, (by refine ⟨rfl, rfl, by simp, ?_, ?_, .inr ⟨?_, ?_⟩⟩ <;> (repeat' apply And.intro) <;> first | rfl | trivial | (intro _; first | rfl | apply qc_refs | apply bls_refs | apply ints_refs))⟩
        · simp (config := { maxSteps := 2000000 }) (disch := first | omega | assumption | (simp only [List.length_cons, List.length_nil, Nat.zero_add, Nat.reduceAdd]; done) | (simp only [IntKind.wrap_i64]; omega)) only [vop_move, vcallee_move, vop_load, vcallee_load, vcallee_value, vcal_fn, strip_pv, strip_ptr, strip_agg, strip_fn, optV_none, ev_tmp, ev_func, put_some, at_mk, fits_some, ↓look_cons, ↓vlook_t, ↓vlook_f, guard_none, ↓code_skip, ↓code_region, ↓code_seq, ↓onNormal_normal, load_ptr, vld_agg, blk_zero, blk_succ, evG_eq, ↓vrun_cons, ↓run1_some, ↓run2_none, ↓run2_some, ↓run3_some, ↓vcg_none, List.map_nil, List.map_cons, List.map_nil, List.nil_append, List.append_nil, List.drop_zero, Option.map_some, ↓reduceIte, Nat.reduceLT, Nat.reduceBEq, Int.reduceLT, Int.reduceBEq, Nat.zero_add, true_and, Bool.true_and, Bool.cond_self, beq_self_eq_true, Nat.le_refl, Try.vt29, dec_t, int_beq_f, qc_len, qc_take10]
          refine vc_pure (round_v x.q) (by simp only [DV.nums, DV.nums.go, Bool.and_self, qc_nums]) ?_
          rw [f5, if_pos rfl, f6, hq]
          have h7 := f7 hk4
          have hle0 : ¬ s'.sum < j.since + 1 := by omega
          simp (config := { maxSteps := 2000000 }) (disch := first | omega | assumption | (simp only [List.length_cons, List.length_nil, Nat.zero_add, Nat.reduceAdd]; done) | (simp only [IntKind.wrap_i64]; omega)) only [vop_move, vcallee_move, vop_assign, vcallee_assign, vop_binOp, vcallee_binOp, strip_pv, optV_none, ev_tmp, ev_const, ofConst_int, put_some, at_mk, fits_some, ↓look_cons, ↓vlook_t, ↓vlook_f, guard_none, ↓vrun_nil, ↓code_skip, ↓code_region, ↓onNormal_normal, ↓onBlock_normal, bin_int, int_add, int_gtr, evG_eq, ↓vrun_cons, ↓run1_some, ↓run2_none, ↓run3_some, ↓runK_eq, ↓code_cond, ↓vtest_bool, ↓vbr_false, Option.map_some, Nat.reduceLT, Nat.reduceBEq, Int.reduceLT, Int.reduceBEq, true_and, Bool.true_and, Bool.cond_self, beq_self_eq_true, wrap_i64_in, dec_t, dec_f]
          exact ⟨⟨j.n + 1, by omega, c', x.q, f6.trans hq, f5, j.since + 1, by omega, by omega⟩, by show 80 - (j.n + 1) < 80 - j.n; omega, (by refine ⟨rfl, rfl, by simp, ?_, ?_, .inr ⟨?_, ?_⟩⟩ <;> (repeat' apply And.intro) <;> first | rfl | trivial | (intro _; first | rfl | apply qc_refs | apply bls_refs | apply ints_refs))⟩
    · simp (config := { maxSteps := 2000000 }) (disch := first | omega | assumption | (simp only [List.length_cons, List.length_nil, Nat.zero_add, Nat.reduceAdd]; done) | (simp only [IntKind.wrap_i64]; omega)) only [vop_assign, vcallee_assign, strip_pv, optV_none, ev_const, ofConst_bool, put_some, at_mk, fits_some, ↓look_cons, ↓vlook_t, guard_none, ↓vrun_nil, ↓code_region, ↓code_seq, ↓code_exit, ↓code_ret, ↓onNormal_normal, ↓onNormal_exit, ↓onBlock_exit, frz_pv, frzHeap_zero, res_one, vres_tmp, evG_eq, ↓vrun_cons, ↓run1_some, ↓run2_none, ↓run3_some, ↓vpost_ret, vfin_some, vfin2_some, at_hp, ↓reduceIte, Nat.reduceLT, Int.reduceLT, and_self, Bool.and_self, Bool.cond_self, beq_self_eq_true, dec_t, dec_f, Ret, DV.nums]
end Go.Proofs.Ytbbomgodoodcjaa

namespace Go.Proofs.Ytbbomgodoodcjaa
open Go.V Go

/-! ### Rounds: all kinds are offered -/
def all8 : List W := [⟨1, 0⟩, ⟨2, 1⟩, ⟨3, 2⟩, ⟨4, 3⟩, ⟨5, 4⟩, ⟨6, 5⟩, ⟨7, 6⟩, ⟨8, 7⟩]

theorem all8_first (k : Int) (h : 1 ≤ k ∧ k ≤ 8) : firstOf all8 k = some ⟨k, k - 1⟩ := by
  have : k = 1 ∨ k = 2 ∨ k = 3 ∨ k = 4 ∨ k = 5 ∨ k = 6 ∨ k = 7 ∨ k = 8 := by omega
  rcases this with rfl | rfl | rfl | rfl | rfl | rfl | rfl | rfl <;> rfl
theorem all8_has (k : Int) (h : 1 ≤ k ∧ k ≤ 8) : has all8 k = true := by
  rw [← has_first, all8_first k h]; rfl

/-- Where a round stands: 'c' choices, 'got' of each kind. -/
structure Rnd (s : List Int) (q : Q) (c : Int) (got : List Int) : Prop where
  hq : q.sh = s
  hv : valid q = true
  hl : got.length = 8
  st : (c = 0 ∧ (∀ i, i < 8 → got.getD i 0 = 0) ∧ ((q.kind = 1 ∧ q.used = 0) ∨ (q.used = shareAt q q.kind ∧ ∀ i : Nat, q.kind ≤ i → i < 8 → s.getD i 0 = 0))) ∨
    (1 ≤ q.used ∧ (∀ i : Nat, i < 8 → got.getD i 0 = if (i : Int) + 1 < q.kind then s.getD i 0 else if (i : Int) + 1 = q.kind then q.used else 0) ∧ c = (s.take (q.kind - 1).toNat).sum + q.used)

theorem take_zeros (s : List Int) (a : Nat) : ∀ n, a + n ≤ s.length → (∀ i, a ≤ i → i < a + n → s.getD i 0 = 0) → (s.take (a + n)).sum = (s.take a).sum
  | 0, _, _ => rfl
  | n + 1, h, hz => by
    rw [← Nat.add_assoc, take_sum s (a + n) (by omega), take_zeros s a n (by omega) (fun i h1 h2 => hz i h1 (by omega)), hz (a + n) (by omega) (by omega)]
    omega

theorem sum_le (s : List Int) (h : ∀ n ∈ s, 0 ≤ n) (a : Nat) : (s.take a).sum ≤ s.sum := by
  have e : s.sum = (s.take a).sum + (s.drop a).sum := by rw [← List.sum_append, List.take_append_drop]
  have : 0 ≤ (s.drop a).sum := by
    have : ∀ l : List Int, (∀ n ∈ l, 0 ≤ n) → 0 ≤ l.sum := fun l hl => by
      induction l with
      | nil => simp
      | cons x r ih => have := hl x (by simp); have := ih fun n hn => hl n (by simp [hn]); simp only [List.sum_cons]; omega
    exact this _ fun n hn => h n (List.mem_of_mem_drop hn)
  omega

theorem share_get (q : Q) (k : Int) (s : List Int) (hq : q.sh = s) : shareAt q k = s.getD (k - 1).toNat 0 := by rw [shareAt, hq]

theorem rnd_step (s : List Int) (q : Q) (c : Int) (got : List Int) (h : Rnd s q c got) (hc : c < s.sum) : ∃ k : Int, 1 ≤ k ∧ k ≤ 8 ∧ (next q all8).e = 0 ∧ (next q all8).ok = true ∧ (next q all8).w = ⟨k, k - 1⟩ ∧ Rnd s (next q all8).q (c + 1) (got.set (k - 1).toNat (got.getD (k - 1).toNat 0 + 1)) := by
  obtain ⟨hq, hv, hl, hst⟩ := h
  have hsl : s.length = 8 := by rw [← hq, q.hl]
  have hv2 := hv
  rw [valid, Bool.and_eq_true] at hv2
  have hk := of_decide_eq_true hv2.2
  have hall := valid_all q hv
  rw [hq] at hall
  have hnn : ∀ i : Nat, 0 ≤ s.getD i 0 := fun i => by
    rw [List.getD_eq_getElem?_getD]
    cases hx : s[i]? with
    | none => simp
    | some n => exact (hall n (List.mem_of_getElem? hx)).1
  have hc0 : 0 ≤ c := by
    rcases hst with ⟨rfl, _⟩ | ⟨h1, _, h2⟩
    · omega
    · have : ∀ a, 0 ≤ (s.take a).sum := fun a => by
        induction a with
        | zero => simp
        | succ a ih =>
          by_cases ha : a < s.length
          · rw [take_sum s a ha]; have := hnn a; omega
          · rw [List.take_of_length_le (by omega)] at ih ⊢; exact ih
      have := this (q.kind - 1).toNat
      omega
  -- some kind has a share
  have hso : someOff q all8 = true := by
    cases hs : someOff q all8 with
    | true => rfl
    | false =>
      exfalso
      have hz : ∀ i : Nat, i < 8 → s.getD i 0 = 0 := fun i hi => by
        rw [someOff, List.any_eq_false] at hs
        have hm : (⟨(i : Int) + 1, i⟩ : W) ∈ all8 := by
          have : i = 0 ∨ i = 1 ∨ i = 2 ∨ i = 3 ∨ i = 4 ∨ i = 5 ∨ i = 6 ∨ i = 7 := by omega
          rcases this with rfl | rfl | rfl | rfl | rfl | rfl | rfl | rfl <;> simp [all8]
        have := hs _ hm
        rw [decide_eq_true_eq, share_get q _ s hq] at this
        simp only at this
        rw [show ((i : Int) + 1 - 1).toNat = i by omega] at this
        have := hnn i
        omega
      have := take_zeros s 0 8 (by omega) (fun i _ hi => hz i (by omega))
      rw [Nat.zero_add, List.take_of_length_le (by omega)] at this
      simp at this
      omega
  obtain ⟨n1, n2, n3, n4, n5, n6⟩ := next_spec q all8 hv
  obtain ⟨sp1, sp2, sp3⟩ := steps_spec q all8 ⟨hk.1, hk.2.1⟩ hso
  have hn : next q all8 = ⟨(q.advN (steps q all8)).use, (firstOf all8 (q.advN (steps q all8)).kind).getD W0, true, 0⟩ := by rw [next, if_pos hv, hso, if_pos rfl]
  have hkn := advN_kind q ⟨hk.1, hk.2.1⟩ (steps q all8)
  have hus := advN_used q (steps q all8)
  have hsh := advN_sh q (steps q all8)
  have h0 : steps q all8 = 0 → q.advN (steps q all8) = q := fun h => by rw [h]; rfl
  -- what was passed by has no share
  have pass : ∀ m, 1 ≤ m → m < steps q all8 → s.getD ((q.kind - 1 + m) % 8).toNat 0 = 0 := fun m h1 h2 => by
    have hg := sp3 m h2
    have a1 := advN_kind q ⟨hk.1, hk.2.1⟩ m
    rw [Q.good, all8_has _ (by omega), Bool.and_true, decide_eq_false_iff_not, advN_used q m (by omega), a1, shareAt, advN_sh, hq, show ((q.kind - 1 + m) % 8 + 1 - 1).toNat = ((q.kind - 1 + m) % 8).toNat by omega] at hg
    have := hnn ((q.kind - 1 + m) % 8).toNat
    omega
  have pass0 : 0 < steps q all8 → q.used = shareAt q q.kind := fun h => by
    have hg := sp3 0 h
    rw [show q.advN 0 = q from rfl, Q.good, all8_has _ ⟨hk.1, hk.2.1⟩, Bool.and_true, decide_eq_false_iff_not] at hg
    omega
  rw [hn] at n5 n6 ⊢
  generalize hp : q.advN (steps q all8) = p at *
  generalize hN : steps q all8 = N at *
  have hpk : 1 ≤ p.kind ∧ p.kind ≤ 8 := by omega
  rw [Q.good, all8_has p.kind hpk, Bool.and_true, decide_eq_true_eq] at sp2
  have hps : shareAt p p.kind = s.getD (p.kind - 1).toNat 0 := share_get p _ s (hsh.trans hq)
  refine ⟨p.kind, hpk.1, hpk.2, rfl, rfl, by rw [all8_first p.kind hpk]; rfl, n6.trans hq, n5, by rw [List.length_set]; exact hl, .inr ?_⟩
  have hgs : ∀ i : Nat, i < 8 → (got.set (p.kind - 1).toNat (got.getD (p.kind - 1).toNat 0 + 1)).getD i 0 = if (i : Int) + 1 = p.kind then got.getD i 0 + 1 else got.getD i 0 := fun i hi => by
    rw [getD_set _ _ _ _ (by omega)]
    by_cases e : (p.kind - 1).toNat = i
    · rw [if_pos e, if_pos (by omega), e]
    · rw [if_neg e, if_neg (by omega)]
  show 1 ≤ p.used + 1 ∧ (∀ i : Nat, i < 8 → _ = if (i : Int) + 1 < p.kind then s.getD i 0 else if (i : Int) + 1 = p.kind then p.used + 1 else 0) ∧ c + 1 = (s.take (p.kind - 1).toNat).sum + (p.used + 1)
  by_cases hN0 : N = 0
  · have hpq := h0 hN0
    subst hpq
    rcases hst with ⟨rfl, hz, hb | hb⟩ | ⟨h1, h2, h3⟩
    · refine ⟨by omega, fun i hi => ?_, ?_⟩
      · rw [hgs i hi, hz i hi]
        by_cases e : (i : Int) + 1 = p.kind
        · rw [if_pos e, if_neg (by omega), if_pos e]; omega
        · rw [if_neg e, if_neg (by omega), if_neg e]
      · rw [hb.1]; simp; omega
    · omega
    · refine ⟨by omega, fun i hi => ?_, by omega⟩
      rw [hgs i hi, h2 i hi]
      by_cases e : (i : Int) + 1 = p.kind
      · rw [if_pos e, if_neg (by omega), if_pos e, if_neg (by omega), if_pos e]
      · rw [if_neg e, if_neg e, if_neg e]
  · have hu := hus (by omega)
    have hqu := pass0 (by omega)
    have hqs : shareAt q q.kind = s.getD (q.kind - 1).toNat 0 := share_get q _ s hq
    -- the kinds between, in the order of their numbers
    have mid : q.kind + N ≤ 8 → ∀ i : Nat, q.kind ≤ i → (i : Int) + 1 < p.kind → s.getD i 0 = 0 := fun hle i h1 h2 => by
      have := pass ((i : Int) + 1 - q.kind).toNat (by omega) (by omega)
      rwa [show ((q.kind - 1 + (((i : Int) + 1 - q.kind).toNat : Int)) % 8).toNat = i by omega] at this
    have pre : q.kind + N ≤ 8 → (s.take (p.kind - 1).toNat).sum = (s.take (q.kind - 1).toNat).sum + s.getD (q.kind - 1).toNat 0 := fun hle => by
      have e1 := take_zeros s ((q.kind - 1).toNat + 1) ((p.kind - 1).toNat - ((q.kind - 1).toNat + 1)) (by omega) (fun i h1 h2 => mid hle i (by omega) (by omega))
      rw [Nat.add_sub_cancel' (by omega)] at e1
      rw [e1, take_sum s _ (by omega)]
    rcases hst with ⟨rfl, hz, hb | hb⟩ | ⟨h1, h2, h3⟩
    · -- from the beginning
      have hle : q.kind + N ≤ 8 := by
        by_cases hh : q.kind + N ≤ 8
        · exact hh
        · exfalso
          have := take_zeros s 0 8 (by omega) (fun i _ hi => by
            by_cases e : i = 0
            · subst e; rw [hb.2, hqs, hb.1] at hqu; exact hqu.symm
            · have := pass i (by omega) (by omega)
              rwa [show ((q.kind - 1 + (i : Int)) % 8).toNat = i by omega] at this)
          rw [Nat.zero_add, List.take_of_length_le (by omega)] at this
          simp at this
          omega
      have e2 := pre hle
      refine ⟨by omega, fun i hi => ?_, ?_⟩
      · rw [hgs i hi, hz i hi, hu]
        by_cases e : (i : Int) + 1 = p.kind
        · rw [if_pos e, if_neg (by omega)]; try rw [if_pos e]
        · rw [if_neg e]
          by_cases e' : (i : Int) + 1 < p.kind
          · rw [if_pos e']
            by_cases e3 : i = 0
            · subst e3; rw [hb.2, hqs, hb.1] at hqu; exact hqu
            · exact (mid hle i (by omega) e').symm
          · rw [if_neg e']; try rw [if_neg e]
      · have z1 : (s.take (q.kind - 1).toNat).sum = 0 := by rw [hb.1]; simp
        have z2 : s.getD (q.kind - 1).toNat 0 = 0 := by rw [← hqs, ← hqu]; exact hb.2
        rw [e2, z1, z2, hu]; omega
    · -- from the end of a round
      have hgt : ¬ q.kind + N ≤ 8 := fun hle => by
        have := hb.2 (p.kind - 1).toNat (by omega) (by omega)
        omega
      have low : ∀ i : Nat, (i : Int) + 1 < p.kind → s.getD i 0 = 0 := fun i h2 => by
        have := pass ((i : Int) + 9 - q.kind).toNat (by omega) (by omega)
        rwa [show ((q.kind - 1 + (((i : Int) + 9 - q.kind).toNat : Int)) % 8).toNat = i by omega] at this
      have e2 := take_zeros s 0 (p.kind - 1).toNat (by omega) (fun i _ hi => low i (by omega))
      rw [Nat.zero_add] at e2
      refine ⟨by omega, fun i hi => ?_, ?_⟩
      · rw [hgs i hi, hz i hi, hu]
        by_cases e : (i : Int) + 1 = p.kind
        · rw [if_pos e, if_neg (by omega)]; try rw [if_pos e]
        · rw [if_neg e]
          by_cases e' : (i : Int) + 1 < p.kind
          · rw [if_pos e', low i e']
          · rw [if_neg e']; try rw [if_neg e]
      · rw [e2, hu]; simp
    · -- within a round
      have hle : q.kind + N ≤ 8 := by
        by_cases hh : q.kind + N ≤ 8
        · exact hh
        · exfalso
          have e3 := take_zeros s ((q.kind - 1).toNat + 1) (8 - ((q.kind - 1).toNat + 1)) (by omega) (fun i h1 h2 => by
            have := pass ((i : Int) + 1 - q.kind).toNat (by omega) (by omega)
            rwa [show ((q.kind - 1 + (((i : Int) + 1 - q.kind).toNat : Int)) % 8).toNat = i by omega] at this)
          rw [Nat.add_sub_cancel' (by omega), List.take_of_length_le (by omega), take_sum s _ (by omega)] at e3
          omega
      have e2 := pre hle
      refine ⟨by omega, fun i hi => ?_, ?_⟩
      · rw [hgs i hi, h2 i hi, hu]
        by_cases e : (i : Int) + 1 = p.kind
        · rw [if_pos e, if_neg (by omega), if_neg (by omega), if_neg (by omega), if_pos e]
        · rw [if_neg e]
          by_cases e' : (i : Int) + 1 < p.kind
          · rw [if_pos e']
            by_cases e3 : (i : Int) + 1 < q.kind
            · rw [if_pos e3]
            · rw [if_neg e3]
              by_cases e4 : (i : Int) + 1 = q.kind
              · rw [if_pos e4, hqu, hqs]; congr 1; omega
              · rw [if_neg e4]; exact (mid hle i (by omega) e').symm
          · rw [if_neg e', if_neg e, if_neg (by omega), if_neg (by omega)]
      · rw [e2, hu]; omega

theorem rnd_end (s : List Int) (q : Q) (got : List Int) (h : Rnd s q s.sum got) (hs : 0 < s.sum) : got = s ∧ Rnd s q 0 (List.replicate 8 0) := by
  obtain ⟨hq, hv, hl, hst⟩ := h
  have hsl : s.length = 8 := by rw [← hq, q.hl]
  have hv2 := hv
  rw [valid, Bool.and_eq_true] at hv2
  have hk := of_decide_eq_true hv2.2
  have hall := valid_all q hv
  rw [hq] at hall
  have hqs : shareAt q q.kind = s.getD (q.kind - 1).toNat 0 := share_get q _ s hq
  rcases hst with ⟨h0, _⟩ | ⟨h1, h2, h3⟩
  · omega
  · have e1 := take_sum s (q.kind - 1).toNat (by omega)
    have hle : ∀ a, (s.take a).sum ≤ s.sum := sum_le s (fun n hn => (hall n hn).1)
    have e2 := hle ((q.kind - 1).toNat + 1)
    have hfull : q.used = s.getD (q.kind - 1).toNat 0 := by omega
    have hz : ∀ i : Nat, q.kind ≤ i → i < 8 → s.getD i 0 = 0 := fun i hi h8 => by
      have e3 := take_sum s i (by omega)
      have e4 := hle (i + 1)
      have mono : ∀ n, (s.take ((q.kind - 1).toNat + 1)).sum ≤ (s.take ((q.kind - 1).toNat + 1 + n)).sum := fun n => by
        induction n with
        | zero => exact Int.le_refl _
        | succ n ih =>
          by_cases hn : (q.kind - 1).toNat + 1 + n < s.length
          · have := take_sum s _ hn
            have : 0 ≤ s.getD ((q.kind - 1).toNat + 1 + n) 0 := by
              rw [List.getD_eq_getElem?_getD, List.getElem?_eq_getElem hn]; exact (hall _ (List.getElem_mem hn)).1
            rw [← Nat.add_assoc]; omega
          · have a1 : s.take ((q.kind - 1).toNat + 1 + (n + 1)) = s := List.take_of_length_le (by omega)
            have a2 : s.take ((q.kind - 1).toNat + 1 + n) = s := List.take_of_length_le (by omega)
            rw [a1]; rw [a2] at ih; exact ih
      have e5 := mono (i - ((q.kind - 1).toNat + 1))
      rw [Nat.add_sub_cancel' (by omega)] at e5
      have : 0 ≤ s.getD i 0 := by
        rw [List.getD_eq_getElem?_getD, List.getElem?_eq_getElem (show i < s.length by omega)]; exact (hall _ (List.getElem_mem _)).1
      omega
    refine ⟨?_, hq, hv, by simp, .inl ⟨rfl, fun i hi => ?_, .inr ⟨by rw [hqs]; exact hfull, hz⟩⟩⟩
    · apply List.ext_getElem (by omega)
      intro i g1 g2
      have := h2 i (by omega)
      rw [List.getD_eq_getElem?_getD, List.getElem?_eq_getElem g1, Option.getD_some] at this
      rw [this]
      have hg : s[i] = s.getD i 0 := by rw [List.getD_eq_getElem?_getD, List.getElem?_eq_getElem g2]; rfl
      rw [hg]
      by_cases e : (i : Int) + 1 < q.kind
      · rw [if_pos e]
      · rw [if_neg e]
        by_cases e' : (i : Int) + 1 = q.kind
        · rw [if_pos e', hfull]; congr 1; omega
        · rw [if_neg e', hz i (by omega) (by omega)]
    · rw [List.getD_eq_getElem?_getD, List.getElem?_replicate_of_lt hi]; rfl
end Go.Proofs.Ytbbomgodoodcjaa

namespace Go.Proofs.Ytbbomgodoodcjaa
open Go.V Go
set_option maxRecDepth 100000
set_option pp.deepTerms true
set_option pp.deepTerms.threshold 100000
set_option pp.maxSteps 1000000
set_option pp.proofs false
set_option linter.unusedSimpArgs false

structure I7a where
  i : Nat
  hi : i ≤ 8
  s : List Int
  hs : s.length = 8
  ok : ∀ j, j < i → 0 ≤ s.getD j 0 ∧ s.getD j 0 ≤ 3

theorem cl3_fold (n : Int) : (if 3 < (if 0 > n then 0 else n) then 3 else if 0 > n then 0 else n) = cl3 n := rfl
theorem set_take_sum (s : List Int) (i : Nat) (x : Int) (h : i < s.length) : ((s.set i x).take (i + 1)).sum = (s.take i).sum + x := by
  rw [take_sum _ _ (by rw [List.length_set]; exact h), getD_set _ _ _ _ h, if_pos rfl, List.take_set_of_le (Nat.le_refl _)]
theorem take_bd (s : List Int) : ∀ i, i ≤ s.length → (∀ j, j < i → 0 ≤ s.getD j 0 ∧ s.getD j 0 ≤ 3) → 0 ≤ (s.take i).sum ∧ (s.take i).sum ≤ 3 * i
  | 0, _, _ => by simp
  | i + 1, h, ok => by
    have ih := take_bd s i (by omega) fun j hj => ok j (by omega)
    have := ok i (by omega)
    rw [take_sum s i (by omega)]; omega

theorem all8_take (i : Nat) (h : i < 8) : all8.take (i + 1) = all8.take i ++ [⟨(i : Int) + 1, i⟩] := by
  have : i = 0 ∨ i = 1 ∨ i = 2 ∨ i = 3 ∨ i = 4 ∨ i = 5 ∨ i = 6 ∨ i = 7 := by omega
  rcases this with rfl | rfl | rfl | rfl | rfl | rfl | rfl | rfl <;> rfl
theorem cl3_ok (s : List Int) (hs : s.length = 8) (i : Nat) (hi : i < 8) (ok : ∀ j, j < i → 0 ≤ s.getD j 0 ∧ s.getD j 0 ≤ 3) : ∀ j, j < i + 1 → 0 ≤ (s.set i (cl3 (s.getD i 0))).getD j 0 ∧ (s.set i (cl3 (s.getD i 0))).getD j 0 ≤ 3 := fun j hj => by
  rw [getD_set _ _ _ _ (by omega)]
  split
  · exact cl3_bd _
  · exact ok j (by omega)

theorem all8_frz (hp : Heap) (h : blkCells hp 2 = some (wcs all8)) : frz 0 hp (.own 2 2 0 8) = some (.pv (.sl (sw all8))) := by
  have e : frzP 0 hp 4 (.own 2 2 0 8) = some (.sl (sw all8)) := by
    rw [frzP, if_neg (by omega), h]; rfl
  show frz1 0 hp (.own 2 2 0 8) = _
  rw [frz1, if_neg (by omega), e]; rfl
theorem rnd_new (s : List Int) (hs : s.length = 8) (hv : valid (newQ s hs) = true) : Rnd s (newQ s hs) 0 (List.replicate 8 0) := by
  refine ⟨rfl, hv, by simp, .inl ⟨rfl, fun i hi => ?_, .inl ⟨rfl, rfl⟩⟩⟩
  rw [List.getD_eq_getElem?_getD, List.getElem?_replicate_of_lt hi]; rfl
theorem rnd_got (s : List Int) (q : Q) (c : Int) (got : List Int) (h : Rnd s q c got) (i : Nat) (hi : i < 8) : 0 ≤ got.getD i 0 ∧ got.getD i 0 ≤ 100 := by
  obtain ⟨hq, hv, hl, hst⟩ := h
  have hv2 := hv
  rw [valid, Bool.and_eq_true] at hv2
  have hk := of_decide_eq_true hv2.2
  have hall := valid_all q hv
  rw [hq] at hall
  have hsi : 0 ≤ s.getD i 0 ∧ s.getD i 0 ≤ 100 := by
    rw [List.getD_eq_getElem?_getD]
    cases hx : s[i]? with
    | none => simp
    | some n => exact hall n (List.mem_of_getElem? hx)
  have hsk := share_le q hv q.kind
  rcases hst with ⟨_, h2, _⟩ | ⟨_, h2, _⟩
  · rw [h2 i hi]; omega
  · rw [h2 i hi]
    split
    · exact hsi
    · split <;> omega
theorem ints_eq8 (s : List Int) (h : s.length = 8) : allEq (ints s) (ints s) [(0, 1), (1, 1), (2, 1), (3, 1), (4, 1), (5, 1), (6, 1), (7, 1)] = some true := by
  obtain ⟨a0, a1, a2, a3, a4, a5, a6, a7, rfl⟩ := len8 h
  simp [allEq, leafEq, ints]
structure I7 (s : List Int) where
  n : Nat
  hn : n ≤ 4
  q : Q
  hr : Rnd s q 0 (List.replicate 8 0)
structure I7b (s : List Int) where
  k : Nat
  hk : (k : Int) ≤ s.sum
  q : Q
  got : List Int
  hr : Rnd s q k got

def hd7 (i : Nat) : DV := if i = 0 then .pv (.slc []) else .own 2 2 0 i
def hp7 (c : C) (s : List Int) (i : Nat) : Heap := if i = 0 then [cb c, ⟨26, true, ints s⟩] else [cb c, ⟨26, true, ints s⟩, ⟨36, true, wcs (all8.take i)⟩]

set_option maxHeartbeats 4000000 in
theorem shares_law (l : List UInt8) (hl : l.length ≤ 9223372036854775807) (rd : Int) (hrd : 0 ≤ rd ∧ rd ≤ 255) : VCalls Try.prog 7 [.pv (.sl (sl8 l)), .int .u8 rd] [] (Ret (.bool true)) := by
  refine vcalls_drop (fn := Try.f7) Try.func7 rfl (by kernel_rfl) (by simp [Try.f7]) ?_
  simp (config := { maxSteps := 2000000 }) (disch := first | omega | assumption | (simp only [List.length_cons, List.length_nil, Nat.zero_add, Nat.reduceAdd]; done) | (simp only [IntKind.wrap_i64]; omega)) only [vop_assign, vcallee_assign, vcallee_value, vcal_fn, strip_pv, strip_fn, optV_none, ev_const, ev_func, ofConst_bool, put_some, at_mk, fits_some, guard_none, ↓vrun_nil, ↓code_region, ↓code_seq, ↓onNormal_normal, enum_nil, enum_cons, evG_eq, ↓vrun_cons, ↓run1_some, ↓run2_none, ↓run2_some, ↓run3_some, ↓vcg_none, List.map_nil, List.toList_toArray, List.length_nil, List.map_nil, List.append_nil, Nat.reduceAdd, Nat.reduceLT, Int.reduceLT, Int.reduceAdd, Nat.zero_add, true_and, Bool.true_and, Bool.cond_self, dec_t, Try.f7]
  refine vc_pure awake_v rfl ?_
  simp (config := { maxSteps := 2000000 }) (disch := first | omega | assumption | (simp only [List.length_cons, List.length_nil, Nat.zero_add, Nat.reduceAdd]; done) | (simp only [IntKind.wrap_i64]; omega)) only [vop_move, vcallee_move, vop_unOp, vcallee_unOp, vcallee_value, vcal_fn, strip_pv, strip_fn, optV_none, ev_tmp, ev_const, ev_func, ofConst_int, put_some, at_mk, fits_some, ↓look_cons, ↓vlook_t, ↓vlook_f, guard_none, ↓vrun_nil, ↓code_skip, ↓code_region, ↓code_seq, ↓onNormal_normal, un_not, evG_eq, ↓vrun_cons, ↓run1_some, ↓run2_none, ↓run2_some, ↓run3_some, ↓runK_eq, ↓vcg_none, ↓code_cond, ↓vtest_bool, ↓vbr_false, List.map_nil, List.map_cons, List.map_nil, List.nil_append, List.append_nil, Option.map_some, Nat.reduceLT, Nat.reduceBEq, Int.reduceLT, Int.reduceBEq, true_and, Bool.not_true, Bool.true_and, Bool.cond_self, beq_self_eq_true, dec_t]
  refine vc_draw l 100 (by omega) (by omega) hl ?_
  simp (config := { maxSteps := 2000000 }) (disch := first | omega | assumption | (simp only [List.length_cons, List.length_nil, Nat.zero_add, Nat.reduceAdd]; done) | (simp only [IntKind.wrap_i64]; omega)) only [vop_move, vcallee_move, vop_assign, vcallee_assign, vcallee_value, vcal_fn, strip_ptr, strip_fn, optV_none, ev_tmp, ev_func, put_some, at_mk, fits_some, ↓look_cons, ↓vlook_t, guard_none, ↓vrun_nil, ↓code_region, ↓code_seq, ↓onNormal_normal, evG_eq, ↓vrun_cons, ↓run1_some, ↓run2_none, ↓run2_some, ↓run3_some, ↓runK_eq, ↓vcg_none, List.map_nil, List.length_nil, List.map_cons, List.map_nil, List.nil_append, List.append_nil, Nat.reduceLT, Int.reduceLT, true_and, Bool.true_and, Bool.cond_self, beq_self_eq_true, dec_t]
  refine vc_codesR (k := 0) (c := cnew l 100 (by omega)) rfl (shares_v _) rfl ?_
  rintro _ c ⟨s, hs, rfl⟩
  simp (config := { maxSteps := 2000000 }) (disch := first | omega | assumption | (simp only [List.length_cons, List.length_nil, Nat.zero_add, Nat.reduceAdd]; done) | (simp only [IntKind.wrap_i64]; omega)) only [vop_assign, vcallee_assign, vop_alloc, vcallee_alloc, vop_store, vcallee_store, strip_pv, strip_ptr, strip_agg, optV_none, ev_tmp, ev_const, ofConst_int, ofConst_slice, put_some, put_none, at_mk, fits_some, fits_none, ↓look_cons, ↓vlook_t, ↓vlook_f, guard_none, ↓vrun_nil, ↓code_region, ↓code_seq, ↓code_block, ↓code_loop, ↓onNormal_normal, store_ptr, vst_agg, blk_zero, blk_succ, set_zero, set_succ, alloc_eq, val1_some, allOne_nil, allOne_cons, one_pv, evG_eq, ↓vrun_cons, ↓run1_some, ↓run2_none, ↓run3_some, ↓runK_eq, V.splice, List.length_cons, List.length_nil, List.cons_append, List.nil_append, List.append_nil, List.take_zero, List.drop_succ_cons, List.drop_nil, List.set_cons_zero, Option.map_some, ↓reduceIte, Nat.reduceAdd, Nat.reduceLT, Nat.reduceBEq, Int.reduceLT, Int.reduceAdd, Int.reduceBEq, Nat.zero_add, true_and, and_self, Bool.true_and, Bool.and_self, cond_true, Bool.cond_self, beq_self_eq_true, Nat.le_refl, Try.vt26, Try.vzero26, dec_t, ints_len, ints_one, hs, ints_take8 s hs]
  refine vloopW (fun i : I7a => ⟨126, 0, [(9, .int .i64 i.i), (8, .int .i64 (i.s.take i.i).sum), (7, hd7 i.i), (6, .ptr 1 0), (5, .ptr 0 0), (4, .bool false), (1, .int .u8 rd)], hp7 c i.s i.i⟩) (fun i => 8 - i.i) ⟨0, by omega, s, hs, by omega⟩ (.inl (by rw [hd7, hp7, if_pos rfl, if_pos rfl]; exact (by refine ⟨rfl, rfl, by simp, ?_, ?_, .inl rfl⟩ <;> (repeat' apply And.intro) <;> first | rfl | trivial))) ?_
  intro i
  have hi := i.hi
  have his := i.hs
  by_cases hi0 : i.i = 0
  · have e1 : hd7 i.i = .pv (.slc []) := by rw [hd7, if_pos hi0]
    have e2 : hp7 c i.s i.i = [cb c, ⟨26, true, ints i.s⟩] := by rw [hp7, if_pos hi0]
    have hg := ints_get' i.s 0 (by omega)
    have hlt : 0 < 8 := by omega
    have hg2 := ints_get' (i.s.set 0 (cl3 (i.s.getD 0 0))) 0 (by rw [List.length_set]; omega)
    rw [getD_set _ _ _ _ (by omega), if_pos rfl] at hg2
    have hbd := cl3_bd (i.s.getD 0 0)
    have hsum := take_bd i.s 0 (by omega) (fun j hj => i.ok j (by omega))
    rw [e1, e2, hi0]
    have z0 : ((0 : Nat) : Int) = 0 := rfl
    simp (config := { maxSteps := 2000000 }) (disch := first | omega | assumption | (simp only [List.length_cons, List.length_nil, Nat.zero_add, Nat.reduceAdd]; done) | (simp only [IntKind.wrap_i64]; omega)) only [vop_move, vcallee_move, vop_assign, vcallee_assign, vop_build, vcallee_build, vop_buildSlice, vcallee_buildSlice, vop_load, vcallee_load, vop_store, vcallee_store, vop_binOp, vcallee_binOp, vop_indexAddr, vcallee_indexAddr, vop_builtin, vcallee_builtin, strip_pv, strip_ptr, strip_own, strip_agg, optV_none, ev_tmp, ev_const, ofConst_int, put_some, put_none, at_mk, fits_some, fits_none, ↓look_cons, ↓vlook_t, ↓vlook_f, guard_none, ↓vrun_nil, ↓code_skip, ↓code_region, ↓code_seq, ↓code_block, ↓onNormal_normal, ↓onBlock_normal, load_ptr, vld_one, store_ptr, vst_one, blk_zero, blk_succ, set_zero, set_succ, allOne_nil, allOne_cons, one_pv, iaddr_ptr, viap_some, bin_int, int_add, int_lss, bi_append, bi_min, bi_max, parts_nil, parts_cons, evG_eq, ↓vrun_cons, ↓run1_some, ↓run2_none, ↓run3_some, ↓code_cond, ↓vtest_bool, ↓vbr_true, pvs, List.flatten_nil, List.map_nil, dcells, vbuild, vfill, vbuildSlice, V.mk, vsrc, vbase, vappend, V.splice, List.getElem?_cons_zero, List.getElem?_cons_succ, List.getElem?_nil, List.length_cons, List.length_nil, List.map_cons, List.map_nil, List.cons_append, List.nil_append, List.append_nil, List.take_succ_cons, List.take_zero, List.take_nil, List.drop_succ_cons, List.drop_zero, List.drop_nil, Option.map_some, Option.map_none, ↓reduceIte, reduceCtorEq, Nat.reduceAdd, Nat.reduceLT, Nat.reduceLeDiff, Nat.reduceSub, Nat.reduceBEq, Int.reduceToNat, Int.reduceLT, Int.reduceAdd, Int.reduceSub, Int.reduceBEq, Nat.zero_add, Nat.add_zero, Nat.zero_mul, Nat.mul_one, Nat.one_mul, true_and, and_self, or_false, or_self, Bool.or_false, Bool.true_and, Bool.or_self, Bool.and_self, cond_true, Bool.cond_self, beq_self_eq_true, Nat.le_refl, Try.vt3, Try.velem26, Try.velem33, Try.notInt33, Try.vplaces36, Try.vzero36, Try.bytes36, wrap_i64_in, dec_t, ints_len, his, hg, ints_set, cl3_fold, hg2, z0, List.sum_nil, Int.zero_add]
    refine ⟨⟨1, by omega, i.s.set 0 (cl3 (i.s.getD 0 0)), by rw [List.length_set]; exact his, cl3_ok i.s his 0 (by omega) (by omega)⟩, by show 8 - 1 < 8; omega, ?_⟩
    have hs1 := set_take_sum i.s 0 (cl3 (i.s.getD 0 0)) (by omega)
    simp only [List.take_zero, List.sum_nil, Int.zero_add] at hs1
    show Weak _ ⟨126, 0, [(9, .int .i64 1), (8, .int .i64 ((i.s.set 0 (cl3 (i.s.getD 0 0))).take (0 + 1)).sum), (7, .own 2 2 0 1), (6, .ptr 1 0), (5, .ptr 0 0), (4, .bool false), (1, .int .u8 rd)], [cb c, ⟨26, true, ints (i.s.set 0 (cl3 (i.s.getD 0 0)))⟩, ⟨36, true, [.int .i64 1, .int .i64 0]⟩]⟩
    rw [hs1]
    refine gc_of (keep := [0, 1, 3]) rfl rfl rfl (by decide) ⟨⟨_, rfl, rfl, rfl, .inl ⟨rfl, rfl⟩⟩, ⟨_, rfl, rfl, rfl, .inl ⟨ints_nums _ _, rfl⟩⟩, ⟨_, rfl, rfl, rfl, .inl ⟨rfl, rfl⟩⟩, trivial⟩ ?_
    exact ⟨⟨rfl, rfl⟩, ⟨rfl, rfl⟩, ⟨rfl, rfl⟩, ⟨rfl, rfl⟩, ⟨rfl, rfl⟩, ⟨rfl, rfl⟩, ⟨rfl, rfl⟩, trivial⟩
  · have e1 : hd7 i.i = .own 2 2 0 i.i := by rw [hd7, if_neg hi0]
    have e2 : hp7 c i.s i.i = [cb c, ⟨26, true, ints i.s⟩, ⟨36, true, wcs (all8.take i.i)⟩] := by rw [hp7, if_neg hi0]
    rw [e1, e2]
    simp (config := { maxSteps := 2000000 }) (disch := first | omega | assumption | (simp only [List.length_cons, List.length_nil, Nat.zero_add, Nat.reduceAdd]; done) | (simp only [IntKind.wrap_i64]; omega)) only [vop_move, vcallee_move, vop_binOp, vcallee_binOp, strip_pv, optV_none, ev_tmp, ev_const, ofConst_int, put_some, at_mk, fits_some, ↓look_cons, ↓vlook_t, guard_none, ↓vrun_nil, ↓code_region, ↓code_seq, ↓onNormal_normal, bin_int, int_lss, evG_eq, ↓vrun_cons, ↓run1_some, ↓run2_none, ↓run3_some, ↓code_cond, ↓vtest_bool, Option.map_some, Nat.reduceLT, Int.reduceLT, true_and, Bool.true_and, Bool.cond_self, beq_self_eq_true, dec_t]
    refine vbr_split (fun hc => ?_) (fun hc => ?_) <;> simp only [decide_eq_true_eq, decide_eq_false_iff_not, Bool.or_eq_true, Bool.and_eq_true, Bool.or_eq_false_iff, Bool.and_eq_false_imp, Bool.not_eq_true', Bool.not_eq_false', beq_iff_eq, beq_eq_false_iff_ne, bne_iff_ne, bne_eq_false_iff_eq, ne_eq] at hc
    · have hil : i.i < 8 := by omega
      have hg := ints_get' i.s i.i (by omega)
      have hlt : i.i < 8 := by omega
      have hg2 := ints_get' (i.s.set i.i (cl3 (i.s.getD i.i 0))) i.i (by rw [List.length_set]; omega)
      rw [getD_set _ _ _ _ (by omega), if_pos rfl] at hg2
      have hbd := cl3_bd (i.s.getD i.i 0)
      have hsum := take_bd i.s i.i (by omega) (fun j hj => i.ok j (by omega))
      have hal : (all8.take i.i).length = i.i := by rw [List.length_take]; show min i.i 8 = i.i; omega
      have hlen := wcs_len (all8.take i.i)
      rw [hal] at hlen
      have htk : (wcs (all8.take i.i)).take (i.i * 2) = wcs (all8.take i.i) := List.take_of_length_le (by omega)
      have hle : i.i * 2 ≤ 2 * i.i := by omega
      have hby : (i.i + 1) * 16 ≤ 140737488355328 := by omega
      simp (config := { maxSteps := 2000000 }) (disch := first | omega | assumption | (simp only [List.length_cons, List.length_nil, Nat.zero_add, Nat.reduceAdd]; done) | (simp only [IntKind.wrap_i64]; omega)) only [vop_move, vcallee_move, vop_assign, vcallee_assign, vop_build, vcallee_build, vop_buildSlice, vcallee_buildSlice, vop_load, vcallee_load, vop_store, vcallee_store, vop_binOp, vcallee_binOp, vop_indexAddr, vcallee_indexAddr, vop_builtin, vcallee_builtin, strip_pv, strip_ptr, strip_own, strip_agg, optV_none, ev_tmp, ev_const, ofConst_int, put_some, put_none, at_mk, fits_some, fits_none, ↓look_cons, ↓vlook_t, ↓vlook_f, guard_none, ↓vrun_nil, ↓code_skip, ↓code_region, ↓code_seq, ↓code_block, ↓onNormal_normal, ↓onBlock_normal, load_ptr, vld_one, store_ptr, vst_one, blk_zero, blk_succ, set_zero, set_succ, allOne_nil, allOne_cons, one_pv, iaddr_ptr, viap_some, bin_int, int_add, bi_append, bi_min, bi_max, parts_nil, parts_cons, evG_eq, ↓vrun_cons, ↓run1_some, ↓run2_none, ↓run3_some, List.map_nil, dcells, vbuild, vfill, vbuildSlice, V.mk, vsrc, vbase, vappend, V.kill, V.splice, List.getElem?_cons_zero, List.getElem?_cons_succ, List.length_cons, List.length_nil, List.map_cons, List.map_nil, List.cons_append, List.nil_append, List.append_nil, List.take_succ_cons, List.take_zero, List.take_nil, List.drop_succ_cons, List.drop_zero, List.drop_nil, List.set_cons_zero, List.set_cons_succ, Option.map_some, ↓reduceIte, Nat.reduceAdd, Nat.reduceLT, Nat.reduceLeDiff, Nat.reduceBEq, Int.reduceLT, Int.reduceAdd, Int.reduceBEq, Int.toNat_natCast, Nat.zero_add, Nat.zero_mul, Nat.mul_one, Nat.one_mul, true_and, and_self, Bool.true_and, Bool.and_self, cond_true, Bool.cond_self, beq_self_eq_true, Nat.le_refl, Try.vt3, Try.velem26, Try.velem33, Try.notInt33, Try.vplaces36, Try.vzero36, Try.bytes36, wrap_i64_in, dec_t, ints_len, his, hg, hlt, ints_set, cl3_fold, hg2, hlen, htk, hle, hby]
      refine ⟨⟨i.i + 1, by omega, i.s.set i.i (cl3 (i.s.getD i.i 0)), by rw [List.length_set]; exact his, cl3_ok i.s his i.i hil i.ok⟩, by show 8 - (i.i + 1) < 8 - i.i; omega, ?_⟩
      have hs1 := set_take_sum i.s i.i (cl3 (i.s.getD i.i 0)) (by omega)
      have hw1 : wcs (all8.take (i.i + 1)) = wcs (all8.take i.i) ++ [.int .i64 ((i.i : Int) + 1), .int .i64 i.i] := by rw [all8_take i.i hil, ← wcs_app]; rfl
      have hh1 : hp7 c (i.s.set i.i (cl3 (i.s.getD i.i 0))) (i.i + 1) = [cb c, ⟨26, true, ints (i.s.set i.i (cl3 (i.s.getD i.i 0)))⟩, ⟨36, true, wcs (all8.take i.i) ++ [.int .i64 ((i.i : Int) + 1), .int .i64 i.i]⟩] := by rw [hp7, if_neg (by omega), hw1]
      have hd1 : hd7 (i.i + 1) = .own 2 2 0 (i.i + 1) := by rw [hd7, if_neg (by omega)]
      show Weak _ ⟨126, 0, [(9, .int .i64 ((i.i + 1 : Nat) : Int)), (8, .int .i64 ((i.s.set i.i (cl3 (i.s.getD i.i 0))).take (i.i + 1)).sum), (7, hd7 (i.i + 1)), (6, .ptr 1 0), (5, .ptr 0 0), (4, .bool false), (1, .int .u8 rd)], hp7 c (i.s.set i.i (cl3 (i.s.getD i.i 0))) (i.i + 1)⟩
      rw [hs1, hh1, hd1]
      refine gc_of (keep := [0, 1, 4]) rfl rfl rfl (by decide) ⟨⟨_, rfl, rfl, rfl, .inl ⟨rfl, rfl⟩⟩, ⟨_, rfl, rfl, rfl, .inl ⟨ints_nums _ _, rfl⟩⟩, ⟨_, rfl, rfl, rfl, .inl ⟨nums_app _ (wcs_nums _ _) rfl, rfl⟩⟩, trivial⟩ ?_
      exact ⟨⟨rfl, rfl⟩, ⟨rfl, rfl⟩, ⟨rfl, rfl⟩, ⟨rfl, rfl⟩, ⟨rfl, rfl⟩, ⟨rfl, rfl⟩, ⟨rfl, rfl⟩, trivial⟩
    · have hi8 : i.i = 8 := by omega
      have hts := ints_take8 i.s his
      simp (config := { maxSteps := 2000000 }) (disch := first | omega | assumption | (simp only [List.length_cons, List.length_nil, Nat.zero_add, Nat.reduceAdd]; done) | (simp only [IntKind.wrap_i64]; omega)) only [vop_load, vcallee_load, vcallee_value, vcal_fn, strip_ptr, strip_agg, strip_fn, optV_none, ev_tmp, ev_func, put_some, at_mk, fits_some, ↓look_cons, ↓vlook_t, ↓vlook_f, guard_none, ↓code_region, ↓code_seq, ↓code_exit, ↓onNormal_normal, ↓onNormal_exit, ↓onBlock_exit, load_ptr, vld_agg, blk_zero, blk_succ, evG_eq, ↓vrun_cons, ↓run1_some, ↓run2_none, ↓run2_some, ↓run3_some, ↓vcg_none, List.map_nil, List.map_cons, List.map_nil, List.nil_append, List.append_nil, List.drop_zero, Option.map_some, ↓reduceIte, Nat.reduceLT, Nat.reduceBEq, Int.reduceLT, Int.reduceBEq, Nat.zero_add, true_and, Bool.true_and, Bool.cond_self, beq_self_eq_true, Nat.le_refl, Try.vt26, dec_t, dec_f, ints_len, his, hts]
      have hok : ∀ j, j < 8 → 0 ≤ i.s.getD j 0 ∧ i.s.getD j 0 ≤ 3 := fun j hj => i.ok j (by omega)
      have hv := newQ_ok i.s his hok
      refine vc_pure (new_v i.s his) (by simp only [DV.nums, DV.nums.go, Bool.and_self, ints_nums]) ?_
      rw [hv, if_pos rfl, if_pos rfl]
      have htall : all8.take i.i = all8 := by rw [hi8]; rfl
      have hsall : i.s.take i.i = i.s := List.take_of_length_le (by omega)
      rw [htall, hsall, hi8]
      simp (config := { maxSteps := 2000000 }) (disch := first | omega | assumption | (simp only [List.length_cons, List.length_nil, Nat.zero_add, Nat.reduceAdd]; done) | (simp only [IntKind.wrap_i64]; omega)) only [vop_move, vcallee_move, vop_assign, vcallee_assign, vop_alloc, vcallee_alloc, vop_load, vcallee_load, vop_store, vcallee_store, vop_binOp, vcallee_binOp, vop_extract, vcallee_extract, vcallee_value, vcal_fn, strip_pv, strip_ptr, strip_agg, strip_tup, strip_fn, strip_opt, vstr_true, optV_none, optV_some, ev_tmp, ev_const, ev_func, ofConst_int, put_some, put_none, at_mk, fits_some, fits_none, ↓look_cons, ↓vlook_t, ↓vlook_f, guard_none, guard_some, vgof_bool, ↓vrun_nil, ↓code_region, ↓code_seq, ↓onNormal_normal, load_ptr, vld_agg, store_ptr, vst_agg, blk_zero, blk_succ, set_zero, set_succ, alloc_eq, val1_some, allOne_nil, allOne_cons, one_pv, bin_int, int_neq, ext_tup, evG_eq, ↓vrun_cons, ↓run1_some, ↓run2_none, ↓run2_some, ↓run3_some, ↓runK_eq, ↓vcg_some, at_hp, List.map_nil, V.splice, List.getElem?_cons_zero, List.getElem?_cons_succ, List.length_cons, List.length_nil, List.map_cons, List.map_nil, List.cons_append, List.nil_append, List.append_nil, List.take_zero, List.drop_succ_cons, List.drop_zero, List.drop_nil, Option.map_some, Option.bind_some, ↓reduceIte, Nat.reduceAdd, Nat.reduceLT, Nat.reduceBEq, Int.reduceLT, Int.reduceAdd, Int.reduceBEq, Nat.zero_add, true_and, and_self, or_true, Bool.not_true, Bool.or_true, Bool.true_and, Bool.and_self, cond_true, Bool.cond_self, beq_self_eq_true, Nat.le_refl, Try.vt29, Try.vzero29, dec_t, int_bne_f, qc_len, qc_one, qc_take10]
      have hnq : (newQ i.s his).sh = i.s := rfl
      refine vcg_pure (fun _ => round_v (newQ i.s his)) (by simp only [DV.nums, DV.nums.go, Bool.and_self, qc_nums]) ?_
      rw [hv, if_pos rfl, hnq]
      have hb24 := take_bd i.s 8 (by omega) hok
      rw [List.take_of_length_le (by omega)] at hb24
      simp (config := { maxSteps := 2000000 }) (disch := first | omega | assumption | (simp only [List.length_cons, List.length_nil, Nat.zero_add, Nat.reduceAdd]; done) | (simp only [IntKind.wrap_i64]; omega)) only [vop_move, vcallee_move, vop_pick, vcallee_pick, vop_binOp, vcallee_binOp, vpick_bool, strip_pv, strip_opt, vstr_true, optV_none, optV_some, pickV_bool, ev_tmp, ev_const, ofConst_int, ofConst_bool, put_some, at_mk, fits_some, ↓look_cons, ↓vlook_t, ↓vlook_f, guard_none, guard_some, vgof_bool, ↓vrun_nil, ↓code_skip, ↓code_region, ↓code_seq, ↓onNormal_normal, bin_int, int_eql, int_neq, evG_eq, ↓vrun_cons, ↓run1_some, ↓run2_none, ↓run3_some, ↓runK_eq, ↓code_cond, ↓vtest_bool, ↓vbr_false, List.getElem?_cons_zero, List.getElem?_cons_succ, Option.map_some, Option.bind_some, Nat.reduceLT, Nat.reduceBEq, Int.reduceLT, Int.reduceBEq, true_and, or_true, Bool.not_true, Bool.not_false, Bool.or_true, Bool.true_and, cond_false, Bool.cond_self, beq_self_eq_true, dec_t, int_bne_f]
      refine vbr_split (fun hz => ?_) (fun hz => ?_) <;> simp only [decide_eq_true_eq, decide_eq_false_iff_not, Bool.or_eq_true, Bool.and_eq_true, Bool.or_eq_false_iff, Bool.and_eq_false_imp, Bool.not_eq_true', Bool.not_eq_false', beq_iff_eq, beq_eq_false_iff_ne, bne_iff_ne, bne_eq_false_iff_eq, ne_eq] at hz
      · simp (config := { maxSteps := 2000000 }) (disch := first | omega | assumption | (simp only [List.length_cons, List.length_nil, Nat.zero_add, Nat.reduceAdd]; done) | (simp only [IntKind.wrap_i64]; omega)) only [vop_move, vcallee_move, vop_load, vcallee_load, vcallee_value, vcal_fn, strip_ptr, strip_own, strip_agg, strip_fn, optV_none, ev_tmp, ev_func, put_some, at_mk, fits_some, ↓look_cons, ↓vlook_t, ↓vlook_f, guard_none, ↓code_region, ↓code_seq, load_ptr, vld_agg, blk_zero, blk_succ, evG_eq, ↓vrun_cons, ↓run1_some, ↓run2_none, ↓run2_some, ↓run3_some, ↓vcg_none, List.map_nil, List.map_cons, List.map_nil, List.nil_append, List.append_nil, List.drop_zero, Option.map_some, ↓reduceIte, Nat.reduceLT, Nat.reduceBEq, Int.reduceLT, Int.reduceBEq, Nat.zero_add, true_and, Bool.true_and, Bool.cond_self, beq_self_eq_true, Nat.le_refl, Try.vt29, dec_t, int_beq_t, qc_len, qc_take10]
        refine vc_lend (args0 := [.agg (qc (newQ i.s his)), .pv (.sl (sw all8))]) (next_v' _ _ (by simp [all8])) (frz_two _ (all8_frz _ rfl)) (d_flat _) ?_
        obtain ⟨n1, n2, n3, _⟩ := next_spec (newQ i.s his) all8 hv
        have hso : someOff (newQ i.s his) all8 = false := by
          rw [someOff, List.any_eq_false]
          intro w hw
          rw [decide_eq_true_eq]
          rintro ⟨w1, w2, w3⟩
          rw [share_get _ _ i.s rfl] at w3
          have e := take_sum i.s (w.kind - 1).toNat (by omega)
          have a1 := take_bd i.s (w.kind - 1).toNat (by omega) (fun j hj => hok j (by omega))
          have a2 := sum_le i.s (fun n hn => (valid_all (newQ i.s his) hv n hn).1) ((w.kind - 1).toNat + 1)
          omega
        rw [hso] at n2
        generalize next (newQ i.s his) all8 = x at *
        simp (config := { maxSteps := 2000000 }) (disch := first | omega | assumption | (simp only [List.length_cons, List.length_nil, Nat.zero_add, Nat.reduceAdd]; done) | (simp only [IntKind.wrap_i64]; omega)) only [vop_move, vcallee_move, vop_assign, vcallee_assign, vop_pick, vcallee_pick, vop_alloc, vcallee_alloc, vop_store, vcallee_store, vop_binOp, vcallee_binOp, vop_unOp, vcallee_unOp, vop_extract, vcallee_extract, vpick_bool, strip_pv, strip_ptr, strip_agg, strip_tup, strip_opt, vstr_true, optV_none, optV_some, pickV_bool, ev_tmp, ev_const, ofConst_int, ofConst_bool, put_some, put_none, at_mk, fits_some, fits_none, ↓look_cons, ↓vlook_t, ↓vlook_f, guard_none, guard_some, vgof_bool, ↓vrun_nil, ↓code_region, ↓code_seq, ↓code_ret, ↓onNormal_normal, ↓onNormal_ret, frz_pv, frzHeap_zero, res_one, vres_tmp, store_ptr, vst_agg, blk_zero, blk_succ, set_zero, set_succ, alloc_eq, val1_some, allOne_nil, allOne_cons, one_pv, bin_int, int_eql, un_not, ext_tup, evG_eq, ↓vrun_cons, ↓run1_some, ↓run2_none, ↓run3_some, ↓runK_eq, ↓vpost_ret, vfin_some, vfin2_some, at_hp, V.splice, List.getElem?_cons_zero, List.getElem?_cons_succ, List.length_cons, List.length_nil, List.cons_append, List.nil_append, List.append_nil, List.take_zero, List.drop_succ_cons, List.drop_nil, Option.map_some, Option.bind_some, ↓reduceIte, Nat.reduceAdd, Nat.reduceLT, Nat.reduceBEq, Int.reduceLT, Int.reduceAdd, Int.reduceBEq, Nat.zero_add, and_self, or_true, Bool.not_true, Bool.not_false, Bool.or_true, Bool.and_self, cond_true, Bool.cond_self, beq_self_eq_true, Nat.le_refl, Try.vt29, Try.vzero29, Try.vt36, Try.vzero36, dec_t, Ret, DV.nums, qc_len, qc_one, wc_len, wc_one, Out.d, n1, n2]
      · have ht5 : rd.tmod 5 = rd % 5 := Int.tmod_eq_emod_of_nonneg (by omega)
        simp (config := { maxSteps := 2000000 }) (disch := first | omega | assumption | (simp only [List.length_cons, List.length_nil, Nat.zero_add, Nat.reduceAdd]; done) | (simp only [IntKind.wrap_i64]; omega)) only [vop_move, vcallee_move, vop_assign, vcallee_assign, vop_binOp, vcallee_binOp, vop_convert, vcallee_convert, strip_pv, optV_none, ev_tmp, ev_const, ofConst_int, put_some, at_mk, fits_some, ↓look_cons, ↓vlook_t, ↓vlook_f, guard_none, ↓vrun_nil, ↓code_skip, ↓code_region, ↓code_seq, ↓code_block, ↓code_loop, ↓onNormal_normal, bin_int, int_rem, conv_int, vci_int, evG_eq, ↓vrun_cons, ↓run1_some, ↓run2_none, ↓run3_some, Option.map_some, Nat.reduceLT, Nat.reduceBEq, Int.reduceLT, Int.reduceBEq, true_and, Bool.true_and, Bool.cond_self, beq_self_eq_true, Try.vkind3, Try.vkind5, wrap_i64_in, dec_t, int_beq_f, ht5]
        refine vloop (fun j : I7 i.s => ⟨126, 0, [(16, .int .i64 j.n), (10, .ptr 3 0), (8, .int .i64 i.s.sum), (7, .own 2 2 0 8), (6, .ptr 1 0), (4, .bool false)], [cb c, ⟨26, true, ints i.s⟩, ⟨36, true, wcs all8⟩, ⟨29, true, qc j.q⟩]⟩) (fun j => j.n) ⟨(rd % 5).toNat, by omega, newQ i.s his, rnd_new i.s his hv⟩ ?_ ?_
        · have e5 : (((rd % 5).toNat : Nat) : Int) = rd % 5 := by omega
          show Le _ ⟨126, 0, [(16, .int .i64 (((rd % 5).toNat : Nat) : Int)), (10, .ptr 3 0), (8, .int .i64 i.s.sum), (7, .own 2 2 0 8), (6, .ptr 1 0), (4, .bool false)], [cb c, ⟨26, true, ints i.s⟩, ⟨36, true, wcs all8⟩, ⟨29, true, qc (newQ i.s his)⟩]⟩
          rw [e5]
          exact (by refine ⟨rfl, rfl, by simp, ?_, ?_, .inl rfl⟩ <;> (repeat' apply And.intro) <;> first | rfl | trivial)
        intro j
        have hj := j.hn
        simp (config := { maxSteps := 2000000 }) (disch := first | omega | assumption | (simp only [List.length_cons, List.length_nil, Nat.zero_add, Nat.reduceAdd]; done) | (simp only [IntKind.wrap_i64]; omega)) only [vop_move, vcallee_move, vop_binOp, vcallee_binOp, strip_pv, optV_none, ev_tmp, ev_const, ofConst_int, put_some, at_mk, fits_some, ↓look_cons, ↓vlook_t, guard_none, ↓vrun_nil, ↓code_region, ↓code_seq, ↓onNormal_normal, bin_int, int_gtr, evG_eq, ↓vrun_cons, ↓run1_some, ↓run2_none, ↓run3_some, ↓code_cond, ↓vtest_bool, Option.map_some, Nat.reduceLT, Int.reduceLT, true_and, Bool.true_and, Bool.cond_self, beq_self_eq_true, dec_t]
        refine vbr_split (fun hcj => ?_) (fun hcj => ?_) <;> simp only [decide_eq_true_eq, decide_eq_false_iff_not, Bool.or_eq_true, Bool.and_eq_true, Bool.or_eq_false_iff, Bool.and_eq_false_imp, Bool.not_eq_true', Bool.not_eq_false', beq_iff_eq, beq_eq_false_iff_ne, bne_iff_ne, bne_eq_false_iff_eq, ne_eq] at hcj
        · simp (config := { maxSteps := 2000000 }) (disch := first | omega | assumption | (simp only [List.length_cons, List.length_nil, Nat.zero_add, Nat.reduceAdd]; done) | (simp only [IntKind.wrap_i64]; omega)) only [vop_assign, vcallee_assign, vop_alloc, vcallee_alloc, strip_pv, optV_none, ev_const, ofConst_int, put_some, at_mk, fits_some, guard_none, ↓vrun_nil, ↓code_skip, ↓code_region, ↓code_seq, ↓code_block, ↓code_loop, ↓onNormal_normal, alloc_eq, val1_some, allOne_nil, allOne_cons, one_pv, evG_eq, ↓vrun_cons, ↓run1_some, ↓run2_none, ↓run3_some, List.length_cons, List.length_nil, List.cons_append, List.nil_append, ↓reduceIte, Nat.reduceAdd, Nat.reduceLT, Int.reduceLT, Int.reduceAdd, Nat.zero_add, true_and, and_self, Bool.true_and, Bool.and_self, cond_true, Bool.cond_self, Try.vzero26, dec_t]
          refine vloop (fun k : I7b i.s => ⟨126, 0, [(18, .int .i64 k.k), (17, .ptr 4 0), (16, .int .i64 j.n), (10, .ptr 3 0), (8, .int .i64 i.s.sum), (7, .own 2 2 0 8), (6, .ptr 1 0), (4, .bool false)], [cb c, ⟨26, true, ints i.s⟩, ⟨36, true, wcs all8⟩, ⟨29, true, qc k.q⟩, ⟨26, true, ints k.got⟩]⟩) (fun k => (i.s.sum - k.k).toNat) ⟨0, by omega, j.q, List.replicate 8 0, j.hr⟩ (by refine ⟨rfl, rfl, by simp, ?_, ?_, .inl rfl⟩ <;> (repeat' apply And.intro) <;> first | rfl | trivial) ?_
          intro k
          have hkl := k.hr.hl
          simp (config := { maxSteps := 2000000 }) (disch := first | omega | assumption | (simp only [List.length_cons, List.length_nil, Nat.zero_add, Nat.reduceAdd]; done) | (simp only [IntKind.wrap_i64]; omega)) only [vop_move, vcallee_move, vop_binOp, vcallee_binOp, strip_pv, optV_none, ev_tmp, put_some, at_mk, fits_some, ↓look_cons, ↓vlook_t, ↓vlook_f, guard_none, ↓vrun_nil, ↓code_region, ↓code_seq, ↓onNormal_normal, bin_int, int_lss, evG_eq, ↓vrun_cons, ↓run1_some, ↓run2_none, ↓run3_some, ↓code_cond, ↓vtest_bool, Option.map_some, Nat.reduceLT, Nat.reduceBEq, Int.reduceLT, Int.reduceBEq, true_and, Bool.true_and, Bool.cond_self, beq_self_eq_true, dec_t]
          refine vbr_split (fun hck => ?_) (fun hck => ?_) <;> simp only [decide_eq_true_eq, decide_eq_false_iff_not, Bool.or_eq_true, Bool.and_eq_true, Bool.or_eq_false_iff, Bool.and_eq_false_imp, Bool.not_eq_true', Bool.not_eq_false', beq_iff_eq, beq_eq_false_iff_ne, bne_iff_ne, bne_eq_false_iff_eq, ne_eq] at hck
          · simp (config := { maxSteps := 2000000 }) (disch := first | omega | assumption | (simp only [List.length_cons, List.length_nil, Nat.zero_add, Nat.reduceAdd]; done) | (simp only [IntKind.wrap_i64]; omega)) only [vop_move, vcallee_move, vop_load, vcallee_load, vcallee_value, vcal_fn, strip_ptr, strip_own, strip_agg, strip_fn, optV_none, ev_tmp, ev_func, put_some, at_mk, fits_some, ↓look_cons, ↓vlook_t, ↓vlook_f, guard_none, ↓code_skip, ↓code_region, ↓code_seq, ↓code_block, ↓onNormal_normal, load_ptr, vld_agg, blk_zero, blk_succ, evG_eq, ↓vrun_cons, ↓run1_some, ↓run2_none, ↓run2_some, ↓run3_some, ↓vcg_none, List.map_nil, List.map_cons, List.map_nil, List.nil_append, List.append_nil, List.drop_zero, Option.map_some, ↓reduceIte, Nat.reduceLT, Nat.reduceBEq, Int.reduceLT, Int.reduceBEq, Nat.zero_add, true_and, Bool.true_and, Bool.cond_self, beq_self_eq_true, Nat.le_refl, Try.vt29, dec_t, qc_len, qc_take10]
            obtain ⟨kd, k1, k2, k3, k4, k5, k6⟩ := rnd_step i.s k.q k.k k.got k.hr hck
            refine vc_lend (args0 := [.agg (qc k.q), .pv (.sl (sw all8))]) (next_v' _ _ (by simp [all8])) (frz_two _ (all8_frz _ rfl)) (d_flat _) ?_
            generalize next k.q all8 = x at *
            have hgk := ints_get' k.got (kd - 1).toNat (by omega)
            have hgb : 0 ≤ k.got.getD (kd - 1).toNat 0 ∧ k.got.getD (kd - 1).toNat 0 ≤ 100 := rnd_got i.s k.q k.k k.got k.hr _ (by omega)
            have hltk : (kd - 1).toNat < 8 := by omega
            simp (config := { maxSteps := 2000000 }) (disch := first | omega | assumption | (simp only [List.length_cons, List.length_nil, Nat.zero_add, Nat.reduceAdd]; done) | (simp only [IntKind.wrap_i64]; omega)) only [vop_move, vcallee_move, vop_assign, vcallee_assign, vop_pick, vcallee_pick, vop_alloc, vcallee_alloc, vop_load, vcallee_load, vop_store, vcallee_store, vop_binOp, vcallee_binOp, vop_unOp, vcallee_unOp, vop_fieldAddr, vcallee_fieldAddr, vop_indexAddr, vcallee_indexAddr, vop_extract, vcallee_extract, vpick_bool, strip_pv, strip_ptr, strip_agg, strip_tup, strip_opt, vstr_true, optV_none, optV_some, pickV_bool, ev_tmp, ev_const, ofConst_int, ofConst_bool, put_some, put_none, at_mk, fits_some, fits_none, ↓look_cons, ↓vlook_t, ↓vlook_f, guard_none, guard_some, vgof_bool, ↓vrun_nil, ↓code_skip, ↓code_region, ↓code_seq, ↓onNormal_normal, ↓onBlock_normal, load_ptr, vld_one, vld_agg, store_ptr, vst_one, vst_agg, blk_zero, blk_succ, set_zero, set_succ, alloc_eq, val1_some, allOne_nil, allOne_cons, one_pv, faddr_ptr, vfap_some, iaddr_ptr, viap_some, bin_int, int_add, int_sub, int_neq, un_not, ext_tup, evG_eq, ↓vrun_cons, ↓run1_some, ↓run2_none, ↓run3_some, ↓runK_eq, ↓code_cond, ↓vtest_bool, ↓vbr_false, V.splice, List.getElem?_cons_zero, List.getElem?_cons_succ, List.length_cons, List.length_nil, List.cons_append, List.nil_append, List.append_nil, List.take_zero, List.drop_succ_cons, List.drop_zero, List.drop_nil, Option.map_some, Option.bind_some, ↓reduceIte, reduceCtorEq, Nat.reduceAdd, Nat.reduceLT, Nat.reduceBEq, Int.reduceLT, Int.reduceAdd, Int.reduceBEq, Nat.zero_add, Nat.add_zero, Nat.mul_one, true_and, and_self, or_true, Bool.not_true, Bool.not_false, Bool.or_true, Bool.true_and, Bool.and_self, cond_true, cond_false, Bool.cond_self, beq_self_eq_true, Nat.le_refl, Try.vt3, Try.velem26, Try.vt29, Try.vzero29, Try.vt36, Try.vfield36x0, Try.vfield36x1, Try.vzero36, wrap_i64_in, dec_t, int_bne_f, qc_len, qc_one, qc_take10, ints_len, qc_drop10, Out.d, k3, k4, k5, wc, hkl, hgk, ints_set, hltk]
            exact ⟨⟨k.k + 1, by omega, x.q, k.got.set (kd - 1).toNat (k.got.getD (kd - 1).toNat 0 + 1), k6⟩, by show (i.s.sum - (k.k + 1 : Nat)).toNat < (i.s.sum - k.k).toNat; omega, (by refine ⟨rfl, rfl, by simp, ?_, ?_, .inr ⟨?_, ?_⟩⟩ <;> (repeat' apply And.intro) <;> first | rfl | trivial | (intro _; first | rfl | apply qc_refs | apply bls_refs | apply ints_refs))⟩
          · have hks : (k.k : Int) = i.s.sum := by have := k.hk; omega
            obtain ⟨g1, g2⟩ := rnd_end i.s k.q k.got (hks ▸ k.hr) (by omega)
            rw [g1]
            have e1n : (j.n : Int) - 1 = ((j.n - 1 : Nat) : Int) := by omega
            simp (config := { maxSteps := 2000000 }) (disch := first | omega | assumption | (simp only [List.length_cons, List.length_nil, Nat.zero_add, Nat.reduceAdd]; done) | (simp only [IntKind.wrap_i64]; omega)) only [vop_move, vcallee_move, vop_assign, vcallee_assign, vop_load, vcallee_load, vop_binOp, vcallee_binOp, strip_pv, strip_ptr, strip_agg, optV_none, ev_tmp, ev_const, ofConst_int, put_some, at_mk, fits_some, ↓look_cons, ↓vlook_t, ↓vlook_f, guard_none, ↓vrun_nil, ↓code_skip, ↓code_region, ↓code_seq, ↓code_exit, ↓onNormal_normal, ↓onNormal_exit, ↓onBlock_normal, ↓onBlock_exit, load_ptr, vld_agg, blk_zero, blk_succ, bin_int, int_sub, evG_eq, ↓vrun_cons, ↓run1_some, ↓run2_none, ↓run3_some, ↓code_cond, ↓vtest_bool, ↓vbr_false, bin_agg, vba_neq, List.drop_zero, Option.map_some, ↓reduceIte, Nat.reduceLT, Nat.reduceBEq, Int.reduceLT, Int.reduceBEq, Nat.zero_add, true_and, Bool.not_true, Bool.true_and, Bool.cond_self, beq_self_eq_true, Nat.le_refl, Try.vt26, Try.leaves26, Try.eqg26, wrap_i64_in, dec_t, dec_f, ints_len, his, ints_take8 i.s his, ints_eq8 i.s his, e1n]
            exact ⟨⟨j.n - 1, by omega, k.q, g2⟩, by show j.n - 1 < j.n; omega, (by refine ⟨rfl, rfl, by simp, ?_, ?_, .inr ⟨?_, ?_⟩⟩ <;> (repeat' apply And.intro) <;> first | rfl | trivial | (intro _; first | rfl | apply qc_refs | apply bls_refs | apply ints_refs))⟩
        · simp (config := { maxSteps := 2000000 }) (disch := first | omega | assumption | (simp only [List.length_cons, List.length_nil, Nat.zero_add, Nat.reduceAdd]; done) | (simp only [IntKind.wrap_i64]; omega)) only [vop_assign, vcallee_assign, strip_pv, optV_none, ev_const, ofConst_bool, put_some, at_mk, fits_some, ↓look_cons, ↓vlook_t, guard_none, ↓vrun_nil, ↓code_region, ↓code_seq, ↓code_exit, ↓code_ret, ↓onNormal_normal, ↓onNormal_exit, ↓onBlock_exit, frz_pv, frzHeap_zero, res_one, vres_tmp, evG_eq, ↓vrun_cons, ↓run1_some, ↓run2_none, ↓run3_some, ↓vpost_ret, vfin_some, vfin2_some, at_hp, ↓reduceIte, Nat.reduceLT, Int.reduceLT, and_self, Bool.and_self, Bool.cond_self, beq_self_eq_true, dec_t, dec_f, Ret, DV.nums]
end Go.Proofs.Ytbbomgodoodcjaa
