/-
  Contracts of functions of the program and of the statements, and plain laws. No condition.
-/
import Derived.Test.YtmdjgpnonhbfdaaP3
namespace Go.Proofs.Ytmdjgpnonhbfdaa
open Go.V Go
set_option maxRecDepth 100000
set_option pp.deepTerms true
set_option pp.deepTerms.threshold 100000
set_option pp.maxSteps 1000000
set_option pp.proofs false
set_option linter.unusedSimpArgs false

def eA : E := ⟨9, 3, 2, 8, 0, 0, Ch0, []⟩
theorem eA_ok : eA.okB = true := by decide +kernel
theorem eA_len : (encL eA).length = 48 := by decide +kernel
theorem eA_dec : ∃ x : E, decE (encL eA) = (x, 0) ∧ x.lsn = 9 ∧ x.tx = 2 := ⟨(decE (encL eA)).1, Prod.ext rfl (by decide +kernel), by decide +kernel, by decide +kernel⟩
theorem awake5_v : VCalls Try.prog 27 [] [] (Ret (.bool true)) := by
  refine vcalls_drop (fn := Try.f27) Try.func27 rfl (by kernel_rfl) (by simp [Try.f27]) ?_
  have he := encode_v eA
  unfold encR encE at he
  rw [eA_ok] at he
  have hl := eA_len
  have hd := decode_v (encL eA) (by omega)
  obtain ⟨x, hx, h1, h2⟩ := eA_dec
  rw [hx] at hd
  simp only [reduceIte] at he
  generalize encL eA = s at he hl hd
  simp (config := { maxSteps := 2000000 }) (disch := first | omega | assumption | (simp only [List.length_cons, List.length_nil, Nat.zero_add, Nat.reduceAdd]; done) | (simp only [IntKind.wrap_i64]; omega) | (simp only [List.length_replicate, List.length_set, List.length_append, List.length_cons, List.length_nil, List.length_take, List.length_drop, List.length_map] <;> omega) | fail) only [vop_assign, vcallee_assign, vop_build, vcallee_build, vcallee_value, vcal_fn, strip_pv, strip_agg, strip_fn, optV_none, ev_tmp, ev_const, ev_func, ofConst_int, ofConst_bool, put_some, at_mk, fits_some, ↓look_cons, ↓vlook_t, guard_none, ↓vrun_nil, ↓code_region, ↓code_seq, ↓onNormal_normal, allOne_nil, allOne_cons, one_pv, parts_nil, parts_cons, enum_nil, evG_eq, ↓vrun_cons, ↓run1_some, ↓run2_none, ↓run2_some, ↓run3_some, ↓vcg_none, List.map_nil, dcells, vbuild, vfill, V.splice, List.toList_toArray, List.getElem?_cons_zero, List.getElem?_cons_succ, List.length_cons, List.length_nil, List.map_cons, List.map_nil, List.cons_append, List.nil_append, List.append_nil, List.take_succ_cons, List.take_zero, List.drop_succ_cons, List.drop_zero, Option.map_some, ↓reduceIte, Nat.reduceAdd, Nat.reduceLT, Nat.reduceLeDiff, Int.reduceLT, Int.reduceAdd, Nat.zero_add, true_and, and_self, Bool.true_and, Bool.and_self, Bool.cond_self, beq_self_eq_true, Try.vplaces53, Try.vzero53, dec_t, Try.f27]
  refine vc_pure he rfl ?_
  simp (config := { maxSteps := 2000000 }) (disch := first | omega | assumption | (simp only [List.length_cons, List.length_nil, Nat.zero_add, Nat.reduceAdd]; done) | (simp only [IntKind.wrap_i64]; omega) | (simp only [List.length_replicate, List.length_set, List.length_append, List.length_cons, List.length_nil, List.length_take, List.length_drop, List.length_map] <;> omega) | fail) only [vop_move, vcallee_move, vop_assign, vcallee_assign, vop_extract, vcallee_extract, vcallee_value, vcal_fn, strip_pv, strip_tup, strip_fn, optV_none, ev_tmp, ev_func, put_some, at_mk, fits_some, ↓look_cons, ↓vlook_t, ↓vlook_f, guard_none, ↓vrun_nil, ↓code_region, ↓code_seq, ↓onNormal_normal, ext_tup, evG_eq, ↓vrun_cons, ↓run1_some, ↓run2_none, ↓run2_some, ↓run3_some, ↓runK_eq, ↓vcg_none, List.map_nil, List.getElem?_cons_zero, List.getElem?_cons_succ, List.map_cons, List.map_nil, List.nil_append, List.append_nil, Option.map_some, Nat.reduceLT, Nat.reduceBEq, Int.reduceLT, Int.reduceBEq, true_and, Bool.true_and, Bool.cond_self, beq_self_eq_true, dec_t]
  refine vc_pure hd rfl ?_
  simp (config := { maxSteps := 2000000 }) (disch := first | omega | assumption | (simp only [List.length_cons, List.length_nil, Nat.zero_add, Nat.reduceAdd]; done) | (simp only [IntKind.wrap_i64]; omega) | (simp only [List.length_replicate, List.length_set, List.length_append, List.length_cons, List.length_nil, List.length_take, List.length_drop, List.length_map] <;> omega) | fail) only [vop_move, vcallee_move, vop_assign, vcallee_assign, vop_pick, vcallee_pick, vop_alloc, vcallee_alloc, vop_load, vcallee_load, vop_store, vcallee_store, vop_binOp, vcallee_binOp, vop_fieldAddr, vcallee_fieldAddr, vop_extract, vcallee_extract, vop_builtin, vcallee_builtin, bin2_int, vpick_bool, strip_pv, strip_ptr, strip_agg, strip_tup, strip_opt, vstr_true, optV_none, optV_some, pickV_bool, ev_tmp, ev_const, ofConst_int, ofConst_bool, put_some, put_none, at_mk, fits_some, fits_none, ↓look_cons, ↓vlook_t, ↓vlook_f, guard_none, guard_some, vgof_bool, ↓vrun_nil, ↓code_region, ↓code_seq, ↓code_ret, ↓onNormal_normal, frz_pv, frzHeap_zero, res_one, vres_tmp, load_ptr, vld_one, store_ptr, vst_agg, blk_zero, set_zero, alloc_eq, val1_some, allOne_nil, allOne_cons, one_pv, faddr_ptr, vfap_some, bin_int, int_eql, ext_tup, len_str, vls_str, bi_len, evG_eq, ↓vrun_cons, ↓run1_some, ↓run2_none, ↓run3_some, ↓runK_eq, ↓vpost_ret, vfin_some, vfin2_some, at_hp, List.map_nil, V.splice, List.getElem?_cons_zero, List.getElem?_cons_succ, List.length_cons, List.length_nil, List.map_cons, List.map_nil, List.nil_append, List.append_nil, List.take_zero, List.drop_succ_cons, List.drop_nil, Option.map_some, Option.bind_some, ↓reduceIte, reduceCtorEq, Nat.reduceAdd, Nat.reduceLT, Nat.reduceBEq, Int.reduceLT, Int.reduceAdd, Int.reduceBEq, Nat.zero_add, Nat.add_zero, and_self, or_true, Bool.not_true, Bool.or_true, Bool.and_self, cond_true, Bool.cond_self, beq_self_eq_true, Nat.le_refl, Try.vt3, Try.vkind9, Try.vt53, Try.vfield53x0, Try.vfield53x2, Try.vzero53, dec_t, int_beq_t, Ret, DV.nums, E.d, hl, h1, h2]

theorem ok_cells (e : E) (h : e.okB = true) : (e.c.b.set = true ∨ e.c.b.data = []) ∧ (e.c.a.set = true ∨ e.c.a.data = []) := by
  obtain ⟨lsn, kind, tx, ptx, ppg, ref, ⟨pg, sl, ⟨b1, b2⟩, ⟨a1, a2⟩⟩, blob⟩ := e
  simp only [E.okB, Bool.and_eq_true] at h
  have h := h.2
  unfold E.kindB at h
  dsimp only at h ⊢
  split at h
  · simp [Ch.okB, Ce.okB] at h; grind
  split at h
  · simp [Ch.okB, Ce.okB] at h; grind
  split at h
  · simp [Ch.no, Ce.no] at h; grind
  split at h
  · simp [Ch.no, Ce.no] at h; grind
  split at h
  · simp [Ch.ix, Ce.no] at h; grind
  · simp at h
theorem cellL_len2 (s : List UInt8) (c : Ce) (h : c.set = true ∨ c.data = []) : (cellL s c).length = s.length + 1 + c.data.length := by
  unfold cellL
  split
  · rw [List.length_append, putL_len]
  · rename_i hs
    rw [putL_len]
    rcases h with h | h
    · exact absurd h hs
    · rw [h]; rfl
theorem encL_len (e : E) (h : e.okB = true) : (encL e).length = 48 + e.c.b.data.length + e.c.a.data.length + e.blob.length := by
  obtain ⟨h1, h2⟩ := ok_cells e h
  rw [encL, List.length_append, putL_len, cellL_len2 _ _ h2, cellL_len2 _ _ h1, encH_len]
  omega

end Go.Proofs.Ytmdjgpnonhbfdaa

namespace Go.Proofs.Ytmdjgpnonhbfdaa
open Go.V Go
set_option maxRecDepth 100000
set_option pp.deepTerms true
set_option pp.deepTerms.threshold 100000
set_option pp.maxSteps 1000000
set_option pp.proofs false
set_option linter.unusedSimpArgs false

theorem eqE_self (x : E) : eqE x x = true := by simp [eqE]
theorem encR_len (e : E) : (encR e).length ≤ 8264 := by
  unfold encR
  split
  · rename_i h
    obtain ⟨h1, h2, h3⟩ := ok_small e h
    rw [encL_len e h]; omega
  · simp

set_option maxHeartbeats 8000000 in
theorem decodes_v (l : List UInt8) (hl : l.length ≤ 9223372036854775807) (s : List UInt8) : VCalls Try.prog 8 [.pv (.sl (fz encU l)), .pv (.str s)] [] (Ret (.bool true)) := by
  refine vcalls_drop (fn := Try.f8) Try.func8 rfl (by kernel_rfl) (by simp [Try.f8]) ?_
  simp (config := { maxSteps := 2000000 }) (disch := first | omega | assumption | (simp only [List.length_cons, List.length_nil, Nat.zero_add, Nat.reduceAdd]; done) | (simp only [IntKind.wrap_i64]; omega) | (simp only [List.length_replicate, List.length_set, List.length_append, List.length_cons, List.length_nil, List.length_take, List.length_drop, List.length_map] <;> omega) | fail) only [vop_assign, vcallee_assign, vcallee_value, vcal_fn, strip_pv, strip_fn, optV_none, ev_const, ev_func, ofConst_bool, put_some, at_mk, fits_some, guard_none, ↓vrun_nil, ↓code_region, ↓code_seq, ↓onNormal_normal, enum_nil, enum_cons, evG_eq, ↓vrun_cons, ↓run1_some, ↓run2_none, ↓run2_some, ↓run3_some, ↓vcg_none, List.map_nil, List.toList_toArray, List.length_nil, List.map_nil, List.append_nil, Nat.reduceAdd, Nat.reduceLT, Int.reduceLT, Int.reduceAdd, Nat.zero_add, true_and, Bool.true_and, Bool.cond_self, dec_t, Try.f8]
  refine vc_pure awake5_v rfl ?_
  by_cases h1 : 600 < (s.length : Int)
  · simp (config := { maxSteps := 2000000 }) (disch := first | omega | assumption | (simp only [List.length_cons, List.length_nil, Nat.zero_add, Nat.reduceAdd]; done) | (simp only [IntKind.wrap_i64]; omega) | (simp only [List.length_replicate, List.length_set, List.length_append, List.length_cons, List.length_nil, List.length_take, List.length_drop, List.length_map] <;> omega) | fail) only [vop_move, vcallee_move, vop_assign, vcallee_assign, vop_pick, vcallee_pick, vop_binOp, vcallee_binOp, vop_unOp, vcallee_unOp, vop_builtin, vcallee_builtin, bin2_int, vpick_bool, strip_pv, strip_opt, vstr_true, optV_none, optV_some, pickV_bool, ev_tmp, ev_const, ofConst_int, ofConst_bool, put_some, at_mk, fits_some, ↓look_cons, ↓vlook_t, ↓vlook_f, guard_none, guard_some, vgof_bool, ↓vrun_nil, ↓code_region, ↓code_seq, ↓code_ret, ↓onNormal_normal, ↓onNormal_ret, frz_pv, frzHeap_zero, res_one, vres_tmp, bin_int, int_gtr, un_not, len_str, vls_str, bi_len, evG_eq, ↓vrun_cons, ↓run1_some, ↓run2_none, ↓run3_some, ↓runK_eq, ↓code_cond, ↓vtest_bool, ↓vbr_true, ↓vpost_ret, vfin_some, vfin2_some, at_hp, List.map_nil, List.getElem?_cons_zero, List.getElem?_cons_succ, List.map_cons, List.map_nil, Option.map_some, Option.bind_some, Nat.reduceLT, Nat.reduceBEq, Int.reduceLT, Int.reduceBEq, and_self, or_true, Bool.not_true, Bool.not_false, Bool.or_true, Bool.and_self, Bool.cond_self, beq_self_eq_true, Try.vkind9, dec_t, Ret, DV.nums, h1]
  · simp (config := { maxSteps := 2000000 }) (disch := first | omega | assumption | (simp only [List.length_cons, List.length_nil, Nat.zero_add, Nat.reduceAdd]; done) | (simp only [IntKind.wrap_i64]; omega) | (simp only [List.length_replicate, List.length_set, List.length_append, List.length_cons, List.length_nil, List.length_take, List.length_drop, List.length_map] <;> omega) | fail) only [vop_move, vcallee_move, vop_pick, vcallee_pick, vop_binOp, vcallee_binOp, vop_unOp, vcallee_unOp, vop_builtin, vcallee_builtin, vcallee_value, vcal_fn, bin2_int, vpick_bool, strip_pv, strip_fn, strip_opt, vstr_true, optV_none, optV_some, pickV_bool, ev_tmp, ev_const, ev_func, ofConst_int, ofConst_bool, put_some, at_mk, fits_some, ↓look_cons, ↓vlook_t, ↓vlook_f, guard_none, guard_some, vgof_bool, ↓vrun_nil, ↓code_skip, ↓code_region, ↓code_seq, ↓onNormal_normal, bin_int, int_gtr, un_not, len_str, vls_str, bi_len, evG_eq, ↓vrun_cons, ↓run1_some, ↓run2_none, ↓run2_some, ↓run3_some, ↓runK_eq, ↓vcg_none, ↓code_cond, ↓vtest_bool, ↓vbr_false, List.map_nil, List.getElem?_cons_zero, List.getElem?_cons_succ, List.map_cons, List.map_nil, List.nil_append, List.append_nil, Option.map_some, Option.bind_some, Nat.reduceLT, Nat.reduceBEq, Int.reduceLT, Int.reduceBEq, decide_false, true_and, or_true, Bool.not_true, Bool.not_false, Bool.or_true, Bool.true_and, cond_false, Bool.cond_self, beq_self_eq_true, Try.vkind9, dec_t, h1]
    refine vc_draw (l := l) (most := 120) (by omega) (by omega) hl fun c0 => ?_
    simp (config := { maxSteps := 2000000 }) (disch := first | omega | assumption | (simp only [List.length_cons, List.length_nil, Nat.zero_add, Nat.reduceAdd]; done) | (simp only [IntKind.wrap_i64]; omega) | (simp only [List.length_replicate, List.length_set, List.length_append, List.length_cons, List.length_nil, List.length_take, List.length_drop, List.length_map] <;> omega) | fail) only [vop_move, vcallee_move, vop_assign, vcallee_assign, vcallee_value, vcal_fn, strip_ptr, strip_fn, optV_none, ev_tmp, ev_func, put_some, at_mk, fits_some, ↓look_cons, ↓vlook_t, guard_none, ↓vrun_nil, ↓code_region, ↓code_seq, ↓onNormal_normal, evG_eq, ↓vrun_cons, ↓run1_some, ↓run2_none, ↓run2_some, ↓run3_some, ↓runK_eq, ↓vcg_none, List.map_nil, List.length_nil, List.map_cons, List.map_nil, List.nil_append, List.append_nil, Nat.reduceLT, Int.reduceLT, true_and, Bool.true_and, Bool.cond_self, beq_self_eq_true, dec_t]
    refine vc_cx (k := 0) (c := c0) (entry_v c0) rfl rfl ?_
    rintro r c1 ⟨x, rfl, hx⟩
    simp (config := { maxSteps := 2000000 }) (disch := first | omega | assumption | (simp only [List.length_cons, List.length_nil, Nat.zero_add, Nat.reduceAdd]; done) | (simp only [IntKind.wrap_i64]; omega) | (simp only [List.length_replicate, List.length_set, List.length_append, List.length_cons, List.length_nil, List.length_take, List.length_drop, List.length_map] <;> omega) | fail) only [vcallee_value, vcal_fn, strip_agg, strip_fn, ev_tmp, ev_func, put_some, at_mk, fits_some, ↓look_cons, ↓vlook_t, guard_none, evG_eq, ↓vrun_cons, ↓run1_some, ↓run2_some, ↓runK_eq, ↓vcg_none, List.map_nil, List.map_cons, List.map_nil, List.nil_append, List.append_nil, List.set_cons_zero, Nat.reduceLT, Int.reduceLT, true_and, Bool.true_and, beq_self_eq_true, dec_t]
    refine vc_pure (rencode_v x) rfl ?_
    have hf := encR_len x
    generalize encR x = f at hf
    simp (config := { maxSteps := 2000000 }) (disch := first | omega | assumption | (simp only [List.length_cons, List.length_nil, Nat.zero_add, Nat.reduceAdd]; done) | (simp only [IntKind.wrap_i64]; omega) | (simp only [List.length_replicate, List.length_set, List.length_append, List.length_cons, List.length_nil, List.length_take, List.length_drop, List.length_map] <;> omega) | fail) only [vop_move, vcallee_move, vop_assign, vcallee_assign, vop_extract, vcallee_extract, vcallee_value, vcal_fn, strip_pv, strip_ptr, strip_tup, strip_fn, optV_none, ev_tmp, ev_func, put_some, at_mk, fits_some, ↓look_cons, ↓vlook_t, ↓vlook_f, guard_none, ↓vrun_nil, ↓code_region, ↓code_seq, ↓onNormal_normal, ext_tup, evG_eq, ↓vrun_cons, ↓run1_some, ↓run2_none, ↓run2_some, ↓run3_some, ↓runK_eq, ↓vcg_none, List.map_nil, List.getElem?_cons_zero, List.getElem?_cons_succ, List.map_cons, List.map_nil, List.nil_append, List.append_nil, Option.map_some, Nat.reduceLT, Nat.reduceBEq, Int.reduceLT, Int.reduceBEq, true_and, Bool.true_and, Bool.cond_self, beq_self_eq_true, dec_t]
    refine vc_cx (k := 0) (c := c1) (spoilt_v c1 f (by omega)) rfl rfl ?_
    rintro r c2 ⟨t, rfl, ht⟩
    simp (config := { maxSteps := 2000000 }) (disch := first | omega | assumption | (simp only [List.length_cons, List.length_nil, Nat.zero_add, Nat.reduceAdd]; done) | (simp only [IntKind.wrap_i64]; omega) | (simp only [List.length_replicate, List.length_set, List.length_append, List.length_cons, List.length_nil, List.length_take, List.length_drop, List.length_map] <;> omega) | fail) only [vop_move, vcallee_move, vcallee_value, vcal_fn, strip_pv, strip_ptr, strip_fn, optV_none, ev_tmp, ev_func, put_some, at_mk, fits_some, ↓look_cons, ↓vlook_t, ↓vlook_f, guard_none, evG_eq, ↓vrun_cons, ↓run1_some, ↓run2_none, ↓run2_some, ↓run3_some, ↓runK_eq, ↓vcg_none, List.map_nil, List.map_cons, List.map_nil, List.nil_append, List.append_nil, List.set_cons_zero, Nat.reduceLT, Nat.reduceBEq, Int.reduceLT, Int.reduceBEq, true_and, Bool.true_and, Bool.cond_self, beq_self_eq_true, dec_t]
    refine vc_cx (k := 0) (c := c2) (spoilt_v c2 f (by omega)) rfl rfl ?_
    rintro r c3 ⟨t2, rfl, ht2⟩
    simp (config := { maxSteps := 2000000 }) (disch := first | omega | assumption | (simp only [List.length_cons, List.length_nil, Nat.zero_add, Nat.reduceAdd]; done) | (simp only [IntKind.wrap_i64]; omega) | (simp only [List.length_replicate, List.length_set, List.length_append, List.length_cons, List.length_nil, List.length_take, List.length_drop, List.length_map] <;> omega) | fail) only [vcallee_value, vcal_fn, strip_pv, strip_ptr, strip_fn, ev_tmp, ev_func, put_some, at_mk, fits_some, ↓look_cons, ↓vlook_t, ↓vlook_f, guard_none, evG_eq, ↓vrun_cons, ↓run1_some, ↓run2_some, ↓runK_eq, ↓vcg_none, List.map_nil, List.map_cons, List.map_nil, List.nil_append, List.append_nil, List.set_cons_zero, Nat.reduceLT, Nat.reduceBEq, Int.reduceLT, Int.reduceBEq, true_and, Bool.true_and, beq_self_eq_true, dec_t]
    refine vc_cx (k := 0) (c := c3) (spoilt_v c3 t2 (by omega)) rfl rfl ?_
    rintro r c4 ⟨t3, rfl, ht3⟩
    simp (config := { maxSteps := 2000000 }) (disch := first | omega | assumption | (simp only [List.length_cons, List.length_nil, Nat.zero_add, Nat.reduceAdd]; done) | (simp only [IntKind.wrap_i64]; omega) | (simp only [List.length_replicate, List.length_set, List.length_append, List.length_cons, List.length_nil, List.length_take, List.length_drop, List.length_map] <;> omega) | fail) only [vop_move, vcallee_move, vop_binOp, vcallee_binOp, vop_builtin, vcallee_builtin, vcallee_value, vcal_fn, bin2_tmp, bin2_int, strip_pv, strip_ptr, strip_fn, optV_none, ev_tmp, ev_const, ev_func, ofConst_int, put_some, at_mk, fits_some, ↓look_cons, ↓vlook_t, ↓vlook_f, guard_none, bin_int, bin_str, int_add, str_add, len_str, vls_str, bi_len, evG_eq, ↓vrun_cons, ↓run1_some, ↓run2_none, ↓run2_some, ↓run3_some, ↓runK_eq, ↓vcg_none, List.map_nil, List.map_cons, List.map_nil, List.nil_append, List.append_nil, List.set_cons_zero, Option.map_some, Nat.reduceLT, Nat.reduceBEq, Int.reduceLT, Int.reduceBEq, true_and, Bool.true_and, Bool.cond_self, beq_self_eq_true, Try.vkind9, wrap_i64_in, dec_t]
    refine vc_cx (k := 0) (c := c4) (next_i c4 _ (by omega) (by omega)) rfl rfl ?_
    rintro r c5 ⟨z, rfl, hz⟩
    have hzf : z ≤ f.length := by omega
    simp (config := { maxSteps := 2000000 }) (disch := first | omega | assumption | (simp only [List.length_cons, List.length_nil, Nat.zero_add, Nat.reduceAdd]; done) | (simp only [IntKind.wrap_i64]; omega) | (simp only [List.length_replicate, List.length_set, List.length_append, List.length_cons, List.length_nil, List.length_take, List.length_drop, List.length_map] <;> omega) | fail) only [vop_move, vcallee_move, vop_buildSlice, vcallee_buildSlice, vop_slice, vcallee_slice, vop_builtin, vcallee_builtin, strip_pv, strip_own, optV_none, ev_tmp, ev_const, ofConst_int, put_some, at_mk, fits_some, ↓look_cons, ↓vlook_t, ↓vlook_f, guard_none, ↓vrun_nil, ↓code_block, ↓code_loop, ↓onNormal_normal, allOne_nil, allOne_cons, one_pv, vlk_sl, len_own, bi_len, parts_nil, parts_cons, evG_eq, ↓vrun_cons, ↓run1_some, ↓run2_none, ↓run3_some, ↓runK_eq, slice_pv, slice_str_hi, vsls_some, List.map_nil, dcells, vfill, vbuildSlice, V.mk, V.splice, List.length_cons, List.length_nil, List.map_cons, List.map_nil, List.cons_append, List.nil_append, List.append_nil, List.take_succ_cons, List.take_zero, List.drop_succ_cons, List.drop_zero, List.drop_nil, List.set_cons_zero, Option.map_some, Option.map_none, ↓reduceIte, Nat.reduceAdd, Nat.reduceLT, Nat.reduceLeDiff, Nat.reduceBEq, Int.reduceLT, Int.reduceAdd, Int.reduceBEq, Int.toNat_natCast, Nat.zero_add, Nat.mul_one, true_and, and_self, Bool.true_and, Bool.and_self, cond_true, Bool.cond_self, beq_self_eq_true, Nat.le_refl, Try.vkind9, Try.vzero9, Try.velem41, Try.vkind41, dec_t]
    obtain ⟨xs, hxs, hxl, hxb⟩ : ∃ xs : List (List UInt8), ([.pv (.str s), .pv (.str f), .pv (.str t), .pv (.str t3), .pv (.str (f ++ s)), .pv (.str (List.take z f))] : List DV) = cells encS xs ∧ xs.length = 6 ∧ ∀ x ∈ xs, x.length ≤ 10000 := by
      refine ⟨[s, f, t, t3, f ++ s, f.take z], rfl, rfl, ?_⟩
      intro x hx
      simp only [List.mem_cons, List.not_mem_nil, or_false] at hx
      rcases hx with rfl | rfl | rfl | rfl | rfl | rfl <;> (try simp only [List.length_append, List.length_take]) <;> omega
    rw [hxs]
    refine vloop (fun i : {i : Nat // i ≤ 6} => ⟨77, 0, [(54, .int .i64 i.1), (53, .int .i64 6), (52, .own 1 1 0 6)], [cb c5, ⟨9, true, cells encS xs⟩]⟩) (fun i => 6 - i.1) ⟨0, by omega⟩ (by refine ⟨rfl, rfl, by simp, ?_, ?_, .inr ⟨?_, ?_⟩⟩ <;> (repeat' apply And.intro) <;> first | rfl | trivial | (intro _; first | rfl | apply cells_refs)) ?_
    rintro ⟨i, hi⟩
    dsimp only
    simp (config := { maxSteps := 2000000 }) (disch := first | omega | assumption | (simp only [List.length_cons, List.length_nil, Nat.zero_add, Nat.reduceAdd]; done) | (simp only [IntKind.wrap_i64]; omega) | (simp only [List.length_replicate, List.length_set, List.length_append, List.length_cons, List.length_nil, List.length_take, List.length_drop, List.length_map] <;> omega) | fail) only [vop_binOp, vcallee_binOp, bin2_tmp, strip_pv, optV_none, ev_tmp, put_some, at_mk, fits_some, ↓look_cons, ↓vlook_t, ↓vlook_f, guard_none, ↓vrun_nil, ↓code_region, ↓code_seq, ↓onNormal_normal, bin_int, int_lss, evG_eq, ↓vrun_cons, ↓run1_some, ↓run2_none, ↓run3_some, ↓code_cond, ↓vtest_bool, Option.map_some, Nat.reduceLT, Nat.reduceBEq, Int.reduceLT, Int.reduceBEq, true_and, Bool.true_and, Bool.cond_self, beq_self_eq_true, dec_t]
    refine vbr_split (fun hc => ?_) (fun hc => ?_) <;> simp only [decide_eq_true_eq, decide_eq_false_iff_not, Bool.or_eq_true, Bool.and_eq_true, Bool.or_eq_false_iff, Bool.and_eq_false_imp, Bool.not_eq_true', Bool.not_eq_false', beq_iff_eq, beq_eq_false_iff_ne, bne_iff_ne, bne_eq_false_iff_eq, ne_eq] at hc
    · have hg := cellsS_get xs i (by omega)
      have hxb := hxb _ (getD_mem xs i [] (by omega))
      generalize xs.getD i [] = u at hg hxb
      have d1 := decode_v u (by omega)
      have d2 := rdecode_v u (by omega)
      generalize (decE u).1 = y at d1 d2
      generalize (decE u).2 = w at d1 d2
      have hq := allEqE y y
      rw [eqE_self] at hq
      simp only [E.d] at hq
      simp (config := { maxSteps := 2000000 }) (disch := first | omega | assumption | (simp only [List.length_cons, List.length_nil, Nat.zero_add, Nat.reduceAdd]; done) | (simp only [IntKind.wrap_i64]; omega) | (simp only [List.length_replicate, List.length_set, List.length_append, List.length_cons, List.length_nil, List.length_take, List.length_drop, List.length_map] <;> omega) | fail) only [vop_move, vcallee_move, vop_assign, vcallee_assign, vop_load, vcallee_load, vop_indexAddr, vcallee_indexAddr, vcallee_value, vcal_fn, strip_pv, strip_ptr, strip_own, strip_fn, optV_none, ev_tmp, ev_func, put_some, at_mk, fits_some, ↓look_cons, ↓vlook_t, ↓vlook_f, guard_none, ↓vrun_nil, ↓code_skip, ↓code_region, ↓code_seq, ↓code_block, ↓onNormal_normal, load_ptr, vld_one, blk_zero, blk_succ, iaddr_own, viao_some, evG_eq, ↓vrun_cons, ↓run1_some, ↓run2_none, ↓run2_some, ↓run3_some, ↓vcg_none, List.map_nil, List.map_cons, List.map_nil, List.nil_append, List.append_nil, Option.map_some, Nat.reduceLT, Nat.reduceBEq, Int.reduceLT, Int.reduceBEq, Int.toNat_natCast, Nat.zero_add, Nat.mul_one, true_and, Bool.true_and, Bool.cond_self, beq_self_eq_true, Try.vt9, Try.velem41, dec_t, hg]
      refine vc_pure d1 rfl ?_
      simp (config := { maxSteps := 2000000 }) (disch := first | omega | assumption | (simp only [List.length_cons, List.length_nil, Nat.zero_add, Nat.reduceAdd]; done) | (simp only [IntKind.wrap_i64]; omega) | (simp only [List.length_replicate, List.length_set, List.length_append, List.length_cons, List.length_nil, List.length_take, List.length_drop, List.length_map] <;> omega) | fail) only [vop_move, vcallee_move, vop_assign, vcallee_assign, vop_alloc, vcallee_alloc, vop_store, vcallee_store, vop_extract, vcallee_extract, vcallee_value, vcal_fn, strip_pv, strip_ptr, strip_agg, strip_tup, strip_fn, optV_none, ev_tmp, ev_func, put_some, put_none, at_mk, fits_some, fits_none, ↓look_cons, ↓vlook_t, ↓vlook_f, guard_none, ↓vrun_nil, ↓code_region, ↓code_seq, ↓onNormal_normal, store_ptr, vst_agg, blk_zero, blk_succ, set_zero, set_succ, alloc_eq, val1_some, allOne_nil, allOne_cons, one_pv, ext_tup, evG_eq, ↓vrun_cons, ↓run1_some, ↓run2_none, ↓run2_some, ↓run3_some, ↓runK_eq, ↓vcg_none, List.map_nil, V.splice, List.getElem?_cons_zero, List.getElem?_cons_succ, List.length_cons, List.length_nil, List.map_cons, List.map_nil, List.cons_append, List.nil_append, List.append_nil, List.take_zero, List.drop_succ_cons, List.drop_nil, Option.map_some, ↓reduceIte, Nat.reduceAdd, Nat.reduceLT, Nat.reduceBEq, Int.reduceLT, Int.reduceAdd, Int.reduceBEq, Nat.zero_add, true_and, and_self, Bool.true_and, Bool.and_self, cond_true, Bool.cond_self, beq_self_eq_true, Nat.le_refl, Try.vt53, Try.vzero53, dec_t, E.d]
      refine vc_pure d2 rfl ?_
      simp (config := { maxSteps := 2000000 }) (disch := first | omega | assumption | (simp only [List.length_cons, List.length_nil, Nat.zero_add, Nat.reduceAdd]; done) | (simp only [IntKind.wrap_i64]; omega) | (simp only [List.length_replicate, List.length_set, List.length_append, List.length_cons, List.length_nil, List.length_take, List.length_drop, List.length_map] <;> omega) | fail) only [vop_move, vcallee_move, vop_assign, vcallee_assign, vop_pick, vcallee_pick, vop_alloc, vcallee_alloc, vop_load, vcallee_load, vop_store, vcallee_store, vop_binOp, vcallee_binOp, vop_extract, vcallee_extract, bin2_tmp, bin2_int, vpick_bool, strip_pv, strip_ptr, strip_agg, strip_tup, strip_opt, vstr_true, optV_none, optV_some, pickV_bool, ev_tmp, ev_const, ofConst_int, ofConst_bool, put_some, put_none, at_mk, fits_some, fits_none, ↓look_cons, ↓vlook_t, ↓vlook_f, guard_none, guard_some, vgof_bool, ↓vrun_nil, ↓code_skip, ↓code_region, ↓code_seq, ↓onNormal_normal, ↓onBlock_normal, load_ptr, vld_agg, store_ptr, vst_agg, blk_zero, blk_succ, set_zero, set_succ, alloc_eq, val1_some, allOne_nil, allOne_cons, one_pv, bin_int, int_add, int_neq, ext_tup, evG_eq, ↓vrun_cons, ↓run1_some, ↓run2_none, ↓run3_some, ↓runK_eq, ↓code_cond, ↓vtest_bool, ↓vbr_false, bin_agg, vba_neq, V.splice, List.getElem?_cons_zero, List.getElem?_cons_succ, List.length_cons, List.length_nil, List.cons_append, List.nil_append, List.append_nil, List.take_succ_cons, List.take_zero, List.take_nil, List.drop_succ_cons, List.drop_zero, List.drop_nil, Option.map_some, Option.bind_some, ↓reduceIte, Nat.reduceAdd, Nat.reduceLT, Nat.reduceBEq, Int.reduceLT, Int.reduceAdd, Int.reduceBEq, Nat.zero_add, true_and, and_self, or_true, Bool.not_true, Bool.not_false, Bool.or_true, Bool.true_and, Bool.and_self, cond_true, cond_false, Bool.cond_self, beq_self_eq_true, Nat.le_refl, Try.vt53, Try.vzero53, Try.leaves53, Try.eqg53, wrap_i64_in, dec_t, int_bne_f, E.d, hq]
      exact ⟨⟨i + 1, by omega⟩, by show 6 - (i + 1) < 6 - i; omega, (by refine ⟨rfl, rfl, by simp, ?_, ?_, .inr ⟨?_, ?_⟩⟩ <;> (repeat' apply And.intro) <;> first | rfl | trivial | (intro _; first | rfl | apply cells_refs))⟩
    · simp (config := { maxSteps := 2000000 }) (disch := first | omega | assumption | (simp only [List.length_cons, List.length_nil, Nat.zero_add, Nat.reduceAdd]; done) | (simp only [IntKind.wrap_i64]; omega) | (simp only [List.length_replicate, List.length_set, List.length_append, List.length_cons, List.length_nil, List.length_take, List.length_drop, List.length_map] <;> omega) | fail) only [vop_assign, vcallee_assign, strip_pv, optV_none, ev_const, ofConst_bool, put_some, at_mk, fits_some, ↓look_cons, ↓vlook_t, guard_none, ↓vrun_nil, ↓code_region, ↓code_seq, ↓code_exit, ↓code_ret, ↓onNormal_normal, ↓onNormal_exit, ↓onBlock_exit, frz_pv, frzHeap_zero, res_one, vres_tmp, evG_eq, ↓vrun_cons, ↓run1_some, ↓run2_none, ↓run3_some, ↓vpost_ret, vfin_some, vfin2_some, at_hp, ↓reduceIte, Nat.reduceLT, Int.reduceLT, and_self, Bool.and_self, Bool.cond_self, beq_self_eq_true, dec_t, dec_f, Ret, DV.nums]
end Go.Proofs.Ytmdjgpnonhbfdaa
