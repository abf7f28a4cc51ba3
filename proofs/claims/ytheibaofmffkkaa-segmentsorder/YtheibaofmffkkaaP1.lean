/-
  Closed facts about the types of this seat, written by a program (gentypes.py).
-/
import Derived.Test.YtheibaofmffkkaaProg
import Derived.Test.YtheibaofmffkkaaV2
import Derived.KernelRfl
namespace Go.Proofs
open Go.V

theorem Try.vt3 : vt Try.prog 3 = some none := by kernel_rfl
theorem Try.vkind3 : vkind Try.prog 3 = .int .i64 := by kernel_rfl
theorem Try.vzero3 : vzero Try.prog 3 = some [.pv (.lit (.int .i64 0))] := by kernel_rfl
theorem Try.bytes3 : bytesT Try.prog 3 = some 8 := by kernel_rfl
theorem Try.vt4 : vt Try.prog 4 = some none := by kernel_rfl
theorem Try.vkind4 : vkind Try.prog 4 = .bool := by kernel_rfl
theorem Try.vzero4 : vzero Try.prog 4 = some [.pv (.lit (.bool false))] := by kernel_rfl
theorem Try.bytes4 : bytesT Try.prog 4 = some 1 := by kernel_rfl
theorem Try.vt5 : vt Try.prog 5 = some none := by kernel_rfl
theorem Try.vkind5 : vkind Try.prog 5 = .int .u8 := by kernel_rfl
theorem Try.vt23 : vt Try.prog 23 = some none := by kernel_rfl
theorem Try.velem23 : velem Try.prog 23 = some (none, 4, 1) := by kernel_rfl
theorem Try.notInt23 : notInt Try.prog 23 = true := by kernel_rfl
theorem Try.vkind23 : vkind Try.prog 23 = .sl 4 := by kernel_rfl
theorem Try.vt24 : vt Try.prog 24 = some none := by kernel_rfl
theorem Try.velem24 : velem Try.prog 24 = some (none, 3, 1) := by kernel_rfl
theorem Try.notInt24 : notInt Try.prog 24 = true := by kernel_rfl
theorem Try.vkind24 : vkind Try.prog 24 = .sl 3 := by kernel_rfl
theorem Try.vt26 : vt Try.prog 26 = some (some 3) := by kernel_rfl
theorem Try.vfield26x0 : vfield Try.prog 26 0 = some (4, 0, 1) := by kernel_rfl
theorem Try.vfield26x1 : vfield Try.prog 26 1 = some (23, 1, 1) := by kernel_rfl
theorem Try.vfield26x2 : vfield Try.prog 26 2 = some (24, 2, 1) := by kernel_rfl
theorem Try.vplaces26 : vplaces Try.prog 26 = some fun j => ([(0, 1), (1, 1), (2, 1)] : List (Nat × Nat))[j]? := by kernel_rfl
theorem Try.vzero26 : vzero Try.prog 26 = some [.pv (.lit (.bool false)), .pv (.slc []), .pv (.slc [])] := by kernel_rfl
theorem Try.vt35 : vt Try.prog 35 = some none := by kernel_rfl
theorem Try.velem35 : velem Try.prog 35 = some (none, 5, 1) := by kernel_rfl
theorem Try.vkind35 : vkind Try.prog 35 = .sl 5 := by kernel_rfl
theorem Try.vfield44x0 : vfield Try.prog 44 0 = some (35, 0, 1) := by kernel_rfl
theorem Try.vfield44x1 : vfield Try.prog 44 1 = some (3, 1, 1) := by kernel_rfl
theorem Try.vplaces44 : vplaces Try.prog 44 = some fun j => ([(0, 1), (1, 1)] : List (Nat × Nat))[j]? := by kernel_rfl
theorem Try.vzero44 : vzero Try.prog 44 = some [.pv (.slc []), .pv (.lit (.int .i64 0))] := by kernel_rfl
end Go.Proofs

namespace Go.Proofs.Ytheibaofmffkkaa
open Go.V Go
set_option maxRecDepth 100000
set_option linter.unusedSimpArgs false

theorem count_v (n : Nat) (h : n ≤ 1000) : VCalls Try.prog 15 [.int .i64 n] [] (Ret (.int .i64 ((n + 3) / 4 : Nat))) := by
  refine vcalls_drop (fn := Try.f15) Try.func15 rfl (by kernel_rfl) (by simp [Try.f15]) ?_
  have ht : ((n : Int) + 4 - 1).tdiv 4 = (((n + 3) / 4 : Nat) : Int) := by rw [tdiv_n (by omega)]; omega
  simp (config := { maxSteps := 2000000 }) (disch := first | omega | assumption | (simp only [List.length_cons, List.length_nil, Nat.zero_add, Nat.reduceAdd]; done) | (simp only [IntKind.wrap_i64]; omega) | (simp only [List.length_replicate, List.length_set, List.length_append, List.length_cons, List.length_nil, List.length_take, List.length_drop, List.length_map] <;> omega) | fail) only [vop_move, vcallee_move, vop_assign, vcallee_assign, vop_binOp, vcallee_binOp, bin2_int, strip_pv, optV_none, ev_tmp, ev_const, ofConst_int, put_some, at_mk, fits_some, ↓look_cons, ↓vlook_t, ↓vlook_f, guard_none, ↓vrun_nil, ↓code_region, ↓code_seq, ↓code_ret, ↓onNormal_normal, frz_pv, frzHeap_zero, res_one, vres_tmp, bin_int, int_add, int_sub, int_quo, enum_nil, enum_cons, evG_eq, ↓vrun_cons, ↓run1_some, ↓run2_none, ↓run3_some, ↓vpost_ret, vfin_some, vfin2_some, at_hp, List.toList_toArray, List.length_nil, Option.map_some, Nat.reduceLT, Nat.reduceBEq, Int.reduceLT, Int.reduceBEq, Nat.zero_add, and_self, Bool.and_self, Bool.cond_self, beq_self_eq_true, wrap_i64_in, dec_t, Ret, DV.nums, Try.f15, ht]

def ofP (n : Int) : Int := if n < 0 then -1 else n / 4
theorem of_v (n : Int) (h : -9223372036854775808 ≤ n ∧ n ≤ 9223372036854775807) : VCalls Try.prog 8 [.int .i64 n] [] (Ret (.int .i64 (ofP n))) := by
  refine vcalls_drop (fn := Try.f8) Try.func8 rfl (by kernel_rfl) (by simp [Try.f8]) ?_
  simp (config := { maxSteps := 2000000 }) (disch := first | omega | assumption | (simp only [List.length_cons, List.length_nil, Nat.zero_add, Nat.reduceAdd]; done) | (simp only [IntKind.wrap_i64]; omega) | (simp only [List.length_replicate, List.length_set, List.length_append, List.length_cons, List.length_nil, List.length_take, List.length_drop, List.length_map] <;> omega) | fail) only [vop_move, vcallee_move, vop_assign, vcallee_assign, vop_binOp, vcallee_binOp, bin2_int, strip_pv, optV_none, ev_tmp, ev_const, ofConst_int, put_some, at_mk, fits_some, ↓look_cons, ↓vlook_t, ↓vlook_f, guard_none, ↓vrun_nil, ↓code_region, ↓code_seq, ↓onNormal_normal, bin_int, int_lss, enum_nil, enum_cons, evG_eq, ↓vrun_cons, ↓run1_some, ↓run2_none, ↓run3_some, ↓code_cond, ↓vtest_bool, List.toList_toArray, List.length_nil, Option.map_some, Nat.reduceLT, Nat.reduceBEq, Int.reduceLT, Int.reduceNeg, Int.reduceBEq, Nat.zero_add, true_and, Bool.true_and, Bool.cond_self, beq_self_eq_true, dec_t, Try.f8, ofP]
  refine vbr_split (fun h0 => ?_) (fun h0 => ?_) <;> simp only [decide_eq_true_eq, decide_eq_false_iff_not, Bool.or_eq_true, Bool.and_eq_true, Bool.or_eq_false_iff, Bool.and_eq_false_imp, Bool.not_eq_true', Bool.not_eq_false', beq_iff_eq, beq_eq_false_iff_ne, bne_iff_ne, bne_eq_false_iff_eq, ne_eq] at h0
  · simp (config := { maxSteps := 2000000 }) (disch := first | omega | assumption | (simp only [List.length_cons, List.length_nil, Nat.zero_add, Nat.reduceAdd]; done) | (simp only [IntKind.wrap_i64]; omega) | (simp only [List.length_replicate, List.length_set, List.length_append, List.length_cons, List.length_nil, List.length_take, List.length_drop, List.length_map] <;> omega) | fail) only [vop_assign, vcallee_assign, strip_pv, optV_none, ev_const, ofConst_int, put_some, at_mk, fits_some, ↓look_cons, ↓vlook_t, guard_none, ↓vrun_nil, ↓code_region, ↓code_seq, ↓code_ret, ↓onNormal_normal, ↓onNormal_ret, frz_pv, frzHeap_zero, res_one, vres_tmp, evG_eq, ↓vrun_cons, ↓run1_some, ↓run2_none, ↓run3_some, ↓vpost_ret, vfin_some, vfin2_some, at_hp, ↓reduceIte, Nat.reduceLT, Int.reduceLT, Int.reduceNeg, and_self, Bool.and_self, Bool.cond_self, beq_self_eq_true, dec_t, Ret, DV.nums, h0]
  · have ht : n.tdiv 4 = n / 4 := tdiv_n (by omega)
    simp (config := { maxSteps := 2000000 }) (disch := first | omega | assumption | (simp only [List.length_cons, List.length_nil, Nat.zero_add, Nat.reduceAdd]; done) | (simp only [IntKind.wrap_i64]; omega) | (simp only [List.length_replicate, List.length_set, List.length_append, List.length_cons, List.length_nil, List.length_take, List.length_drop, List.length_map] <;> omega) | fail) only [vop_move, vcallee_move, vop_assign, vcallee_assign, vop_binOp, vcallee_binOp, bin2_int, strip_pv, optV_none, ev_tmp, ev_const, ofConst_int, put_some, at_mk, fits_some, ↓look_cons, ↓vlook_t, ↓vlook_f, guard_none, ↓vrun_nil, ↓code_skip, ↓code_region, ↓code_seq, ↓code_ret, ↓onNormal_normal, frz_pv, frzHeap_zero, res_one, vres_tmp, bin_int, int_quo, evG_eq, ↓vrun_cons, ↓run1_some, ↓run2_none, ↓run3_some, ↓vpost_ret, vfin_some, vfin2_some, at_hp, Option.map_some, ↓reduceIte, Nat.reduceLT, Nat.reduceBEq, Int.reduceLT, Int.reduceBEq, decide_false, and_self, Bool.and_self, Bool.cond_self, beq_self_eq_true, wrap_i64_in, dec_t, Ret, DV.nums, h0, ht]

/-- A restoration. -/
structure M where
  on : Bool
  done : List Bool
  wait : List Int
def M.d (m : M) : List DV := [.bool m.on, .pv (.sl (fz encB m.done)), .pv (.sl (fz encI m.wait))]
def M0 : M := ⟨false, [], []⟩

theorem new_v (n : Nat) (h0 : 1 ≤ n) (h : n ≤ 64) : VCalls Try.prog 6 [.int .i64 n] [] (Ret (.tup [.agg (M.d ⟨true, List.replicate ((n + 3) / 4) false, []⟩), .int .i64 0])) := by
  refine VCalls.unwk ?_
  refine vcalls_drop (fn := Try.f6) Try.func6 rfl (by kernel_rfl) (by simp [Try.f6]) ?_
  simp (config := { maxSteps := 2000000 }) (disch := first | omega | assumption | (simp only [List.length_cons, List.length_nil, Nat.zero_add, Nat.reduceAdd]; done) | (simp only [IntKind.wrap_i64]; omega) | (simp only [List.length_replicate, List.length_set, List.length_append, List.length_cons, List.length_nil, List.length_take, List.length_drop, List.length_map] <;> omega) | fail) only [vop_move, vcallee_move, vop_assign, vcallee_assign, vop_pick, vcallee_pick, vop_alloc, vcallee_alloc, vop_binOp, vcallee_binOp, vcallee_value, vcal_fn, bin2_int, vpick_bool, strip_pv, strip_fn, strip_opt, vstr_true, optV_none, optV_some, pickV_bool, ev_tmp, ev_const, ev_func, ofConst_int, ofConst_bool, put_some, at_mk, fits_some, ↓look_cons, ↓vlook_t, ↓vlook_f, guard_none, guard_some, vgof_bool, ↓vrun_nil, ↓code_skip, ↓code_region, ↓code_seq, ↓onNormal_normal, alloc_eq, val1_some, allOne_nil, allOne_cons, one_pv, bin_int, int_lss, int_gtr, enum_nil, enum_cons, evG_eq, ↓vrun_cons, ↓run1_some, ↓run2_none, ↓run2_some, ↓run3_some, ↓vcg_none, ↓code_cond, ↓vtest_bool, ↓vbr_false, List.map_nil, List.toList_toArray, List.getElem?_cons_zero, List.getElem?_cons_succ, List.length_nil, List.map_cons, List.map_nil, List.nil_append, List.append_nil, Option.map_some, Option.bind_some, ↓reduceIte, Nat.reduceLT, Nat.reduceBEq, Int.reduceLT, Int.reduceBEq, Nat.zero_add, true_and, and_self, or_true, Bool.not_true, Bool.not_false, Bool.or_true, Bool.true_and, Bool.and_self, cond_true, cond_false, Bool.cond_self, beq_self_eq_true, Try.vzero26, dec_t, dec_f, Try.f6]
  refine vc_pure (count_v n (by omega)) rfl ?_
  simp (config := { maxSteps := 2000000 }) (disch := first | omega | assumption | (simp only [List.length_cons, List.length_nil, Nat.zero_add, Nat.reduceAdd]; done) | (simp only [IntKind.wrap_i64]; omega) | (simp only [List.length_replicate, List.length_set, List.length_append, List.length_cons, List.length_nil, List.length_take, List.length_drop, List.length_map] <;> omega) | fail) only [vop_assign, vcallee_assign, vop_build, vcallee_build, vop_store, vcallee_store, vop_makeSlice, vcallee_makeSlice, strip_pv, strip_ptr, strip_own, strip_agg, optV_none, ev_tmp, ev_const, ofConst_int, ofConst_bool, put_some, put_none, at_mk, fits_some, fits_none, ↓look_cons, ↓vlook_t, ↓vlook_f, guard_none, ↓vrun_nil, ↓code_ret, ↓onNormal_normal, frz_tup, frzT_agg, frzT_pv, frz1_pv, frz1_own, allSome_nil, allSome_cons, frzHeap_zero, res_two, vres_tmp, vres_cell, load_ptr, vld_agg, store_ptr, vst_agg, blk_zero, blk_succ, set_zero, allOne_nil, allOne_cons, one_pv, one_own, parts_nil, parts_cons, evG_eq, ↓vrun_cons, ↓run1_some, ↓run2_none, ↓run3_some, ↓runK_eq, ↓vpost_ret, vfin_some, vfin2_some, at_hp, List.map_nil, dcells, vbuild, vfill, vmake, V.splice, List.getElem?_cons_zero, List.getElem?_cons_succ, List.length_cons, List.length_nil, List.map_cons, List.map_nil, List.cons_append, List.nil_append, List.append_nil, List.take_succ_cons, List.take_zero, List.take_nil, List.drop_succ_cons, List.drop_zero, List.drop_nil, Option.map_some, ↓reduceIte, Nat.reduceAdd, Nat.reduceLT, Nat.reduceLeDiff, Nat.reduceBEq, Int.reduceLT, Int.reduceAdd, Int.reduceBEq, Int.toNat_natCast, Nat.zero_add, true_and, and_true, and_self, Bool.and_true, Bool.true_and, Bool.and_self, cond_true, Bool.cond_self, beq_self_eq_true, Nat.le_refl, frzP_own, frzC_B, make_ite, mkB, List.length_replicate, RetW, DV.wk, DV.wk.go, PV.wk, Try.vzero4, Try.bytes4, Try.velem23, Try.vt26, Try.vplaces26, Try.vzero26, dec_t, DV.nums, DV.nums.go, M.d]
  rfl

theorem range_v (n : Nat) (s : Int) (h0 : 1 ≤ n) (h : n ≤ 64) (hs : -9223372036854775808 ≤ s ∧ s ≤ 9223372036854775807) : VCalls Try.prog 7 [.int .i64 n, .int .i64 s] [] (Ret (if s < 0 ∨ ((n + 3) / 4 : Nat) ≤ s then .tup [.int .i64 0, .int .i64 0, .bool false] else .tup [.int .i64 (s * 4), .int .i64 ((if (n : Int) < s * 4 + 4 then (n : Int) else s * 4 + 4) - 1), .bool true])) := by
  refine vcalls_drop (fn := Try.f7) Try.func7 rfl (by kernel_rfl) (by simp [Try.f7]) ?_
  simp (config := { maxSteps := 2000000 }) (disch := first | omega | assumption | (simp only [List.length_cons, List.length_nil, Nat.zero_add, Nat.reduceAdd]; done) | (simp only [IntKind.wrap_i64]; omega) | (simp only [List.length_replicate, List.length_set, List.length_append, List.length_cons, List.length_nil, List.length_take, List.length_drop, List.length_map] <;> omega) | fail) only [vop_move, vcallee_move, vop_assign, vcallee_assign, vop_pick, vcallee_pick, vop_binOp, vcallee_binOp, vcallee_value, vcal_fn, bin2_int, vpick_bool, strip_pv, strip_fn, strip_opt, vstr_true, optV_none, optV_some, pickV_bool, ev_tmp, ev_const, ev_func, ofConst_int, ofConst_bool, put_some, at_mk, fits_some, ↓look_cons, ↓vlook_t, ↓vlook_f, guard_none, guard_some, vgof_bool, ↓vrun_nil, ↓code_region, ↓code_seq, ↓onNormal_normal, bin_int, int_lss, int_gtr, enum_nil, enum_cons, evG_eq, ↓vrun_cons, ↓run1_some, ↓run2_none, ↓run2_some, ↓run3_some, ↓vcg_some, at_hp, List.map_nil, List.toList_toArray, List.getElem?_cons_zero, List.getElem?_cons_succ, List.length_nil, List.map_cons, List.map_nil, List.nil_append, List.append_nil, Option.map_some, Option.bind_some, Nat.reduceAdd, Nat.reduceLT, Nat.reduceBEq, Int.reduceLT, Int.reduceAdd, Int.reduceBEq, Nat.zero_add, true_and, or_true, Bool.not_true, Bool.not_false, Bool.or_true, Bool.true_and, Bool.or_not_self, Bool.not_not, b_beq_f, cond_false, Bool.cond_self, beq_self_eq_true, dec_t, dec_f, Try.f7]
  refine vcg_pure (fun _ => count_v n (by omega)) rfl ?_
  simp (config := { maxSteps := 2000000 }) (disch := first | omega | assumption | (simp only [List.length_cons, List.length_nil, Nat.zero_add, Nat.reduceAdd]; done) | (simp only [IntKind.wrap_i64]; omega) | (simp only [List.length_replicate, List.length_set, List.length_append, List.length_cons, List.length_nil, List.length_take, List.length_drop, List.length_map] <;> omega) | fail) only [vop_pick, vcallee_pick, vop_binOp, vcallee_binOp, bin2_tmp, vpick_bool, strip_pv, strip_opt, strip_vstr, vstr_true, optV_none, optV_some, pickV_bool, ev_tmp, ev_const, ofConst_bool, put_some, at_mk, fits_some, ↓look_cons, ↓vlook_t, ↓vlook_f, guard_none, guard_some, vgof_bool, ↓vrun_nil, ↓onNormal_normal, bin_int, int_geq, evG_eq, ↓vrun_cons, ↓run1_some, ↓run2_none, ↓run3_some, ↓runK_eq, ↓code_cond, ↓vtest_bool, List.getElem?_cons_zero, List.getElem?_cons_succ, Option.map_some, Option.bind_some, Nat.reduceLT, Nat.reduceBEq, Int.reduceLT, Int.reduceBEq, true_and, or_true, false_or, Bool.not_true, Bool.or_true, Bool.false_or, Bool.true_and, Bool.or_not_self, Bool.not_not, b_beq_f, Bool.cond_self, Bool.cond_true_left, beq_self_eq_true, dec_t]
  refine vbr_split (fun hc => ?_) (fun hc => ?_) <;> simp only [decide_eq_true_eq, decide_eq_false_iff_not, Bool.or_eq_true, Bool.and_eq_true, Bool.or_eq_false_iff, Bool.and_eq_false_imp, Bool.not_eq_true', Bool.not_eq_false', beq_iff_eq, beq_eq_false_iff_ne, bne_iff_ne, bne_eq_false_iff_eq, ne_eq] at hc
  · have hc' : s < 0 ∨ ((n + 3) / 4 : Nat) ≤ s := hc
    rw [if_pos hc']
    simp (config := { maxSteps := 2000000 }) (disch := first | omega | assumption | (simp only [List.length_cons, List.length_nil, Nat.zero_add, Nat.reduceAdd]; done) | (simp only [IntKind.wrap_i64]; omega) | (simp only [List.length_replicate, List.length_set, List.length_append, List.length_cons, List.length_nil, List.length_take, List.length_drop, List.length_map] <;> omega) | fail) only [vop_assign, vcallee_assign, strip_pv, optV_none, ev_const, ofConst_int, ofConst_bool, put_some, at_mk, fits_some, ↓look_cons, ↓vlook_t, ↓vlook_f, guard_none, ↓vrun_nil, ↓code_region, ↓code_seq, ↓code_ret, ↓onNormal_normal, ↓onNormal_ret, frz_tup, frzT_pv, allSome_nil, allSome_cons, frzHeap_zero, res_two, vres_tmp, evG_eq, ↓vrun_cons, ↓run1_some, ↓run2_none, ↓run3_some, ↓vpost_ret, vfin_some, vfin2_some, at_hp, List.map_nil, List.map_cons, List.map_nil, Option.map_some, Nat.reduceLT, Nat.reduceBEq, Int.reduceLT, Int.reduceBEq, and_self, Bool.and_self, Bool.cond_self, beq_self_eq_true, DV.wk.go, dec_t, Ret, DV.nums, DV.nums.go]
  · have hc' : ¬ (s < 0 ∨ ((n + 3) / 4 : Nat) ≤ s) := by omega
    rw [if_neg hc']
    simp (config := { maxSteps := 2000000 }) (disch := first | omega | assumption | (simp only [List.length_cons, List.length_nil, Nat.zero_add, Nat.reduceAdd]; done) | (simp only [IntKind.wrap_i64]; omega) | (simp only [List.length_replicate, List.length_set, List.length_append, List.length_cons, List.length_nil, List.length_take, List.length_drop, List.length_map] <;> omega) | fail) only [vop_move, vcallee_move, vop_assign, vcallee_assign, vop_binOp, vcallee_binOp, vop_builtin, vcallee_builtin, bin2_int, strip_pv, optV_none, ev_tmp, ev_const, ofConst_int, ofConst_bool, put_some, at_mk, fits_some, ↓look_cons, ↓vlook_t, ↓vlook_f, guard_none, ↓vrun_nil, ↓code_skip, ↓code_region, ↓code_seq, ↓code_ret, ↓onNormal_normal, frz_tup, frzT_pv, allSome_nil, allSome_cons, frzHeap_zero, res_two, vres_tmp, bin_int, int_add, int_sub, int_mul, bi_min, evG_eq, ↓vrun_cons, ↓run1_some, ↓run2_none, ↓run3_some, ↓vpost_ret, vfin_some, vfin2_some, at_hp, List.map_nil, List.map_cons, List.map_nil, Option.map_some, Nat.reduceLT, Nat.reduceBEq, Int.reduceLT, Int.reduceBEq, and_self, or_self, Bool.not_false, Bool.or_self, Bool.and_self, Bool.cond_self, beq_self_eq_true, DV.wk.go, wrap_i64_in, dec_t, dec_f, Ret, DV.nums, DV.nums.go]
end Go.Proofs.Ytheibaofmffkkaa

namespace Go.Proofs.Ytheibaofmffkkaa
open Go.V Go
set_option maxRecDepth 100000
set_option linter.unusedSimpArgs false

/-- The first place of a value, or -1. -/
def idxB (l : List Bool) (b : Bool) : Int := if b ∈ l then (l.idxOf b : Int) else -1
def idxI (l : List Int) (b : Int) : Int := if b ∈ l then (l.idxOf b : Int) else -1
structure Pass {α : Type} (l : List α) (p : α → Prop) where
  i : Nat
  hi : i ≤ l.length
  no : ∀ x ∈ l.take i, ¬ p x
def Pass.start {α : Type} (l : List α) (p : α → Prop) : Pass l p := ⟨0, Nat.zero_le _, by simp⟩
def Pass.next {α : Type} {l : List α} {p : α → Prop} (s : Pass l p) (h : s.i < l.length) (hp : ¬ p l[s.i]) : Pass l p :=
  ⟨s.i + 1, h, fun x hx => by
    rw [List.take_succ_eq_append_getElem h, List.mem_append] at hx
    rcases hx with hx | hx
    · exact s.no x hx
    · simp at hx; subst hx; exact hp⟩
theorem Pass.all {α : Type} {l : List α} {p : α → Prop} (s : Pass l p) (h : ¬ s.i < l.length) : ∀ x ∈ l, ¬ p x := by
  have := s.no
  rwa [List.take_of_length_le (by omega)] at this

theorem idx_at_gen {α : Type} [BEq α] [LawfulBEq α] (l : List α) (b : α) (i : Nat) (h : i < l.length) (hx : l[i] = b) (no : ∀ x ∈ l.take i, ¬ x = b) : l.idxOf b = i := by
  have e : l = l.take i ++ l[i] :: l.drop (i + 1) := by rw [← List.drop_eq_getElem_cons h, List.take_append_drop]
  rw [e, List.idxOf_append, if_neg (fun hm => no b hm rfl), hx, List.idxOf_cons_self, List.length_take]; omega
theorem idxB_at (l : List Bool) (b : Bool) (i : Nat) (h : i < l.length) (hx : l[i] = b) (no : ∀ x ∈ l.take i, ¬ x = b) : idxB l b = i := by
  rw [idxB, if_pos (hx ▸ List.getElem_mem h), idx_at_gen l b i h hx no]
theorem idxI_at (l : List Int) (b : Int) (i : Nat) (h : i < l.length) (hx : l[i] = b) (no : ∀ x ∈ l.take i, ¬ x = b) : idxI l b = i := by
  rw [idxI, if_pos (hx ▸ List.getElem_mem h), idx_at_gen l b i h hx no]

theorem indexB_v (l : List Bool) (b : Bool) (hl : l.length ≤ 1000000) : VCalls Try.prog 20 [.pv (.sl (fz encB l)), .bool b] [] (Ret (.int .i64 (idxB l b))) := by
  refine vcalls_drop (fn := Try.f20) Try.func20 rfl (by kernel_rfl) (by simp [Try.f20]) ?_
  simp (config := { maxSteps := 2000000 }) (disch := first | omega | assumption | (simp only [List.length_cons, List.length_nil, Nat.zero_add, Nat.reduceAdd]; done) | (simp only [IntKind.wrap_i64]; omega) | (simp only [List.length_replicate, List.length_set, List.length_append, List.length_cons, List.length_nil, List.length_take, List.length_drop, List.length_map] <;> omega) | fail) only [vop_move, vcallee_move, vop_assign, vcallee_assign, vop_builtin, vcallee_builtin, strip_pv, optV_none, ev_tmp, ev_const, ofConst_int, put_some, at_mk, fits_some, ↓look_cons, ↓vlook_t, ↓vlook_f, guard_none, ↓vrun_nil, ↓code_region, ↓code_seq, ↓code_block, ↓code_loop, ↓onNormal_normal, len_sl, vlk_sl, bi_len, enum_nil, enum_cons, evG_eq, ↓vrun_cons, ↓run1_some, ↓run2_none, ↓run3_some, List.map_nil, List.toList_toArray, List.length_nil, List.map_cons, List.map_nil, Option.map_some, Nat.reduceAdd, Nat.reduceLT, Nat.reduceBEq, Int.reduceLT, Int.reduceNeg, Int.reduceAdd, Int.reduceBEq, Nat.zero_add, true_and, Bool.true_and, Bool.cond_self, beq_self_eq_true, fz_len, Try.vkind23, dec_t, Try.f20]
  refine vloop (fun i : Pass l (fun x => x = b) => ⟨19, 0, [(8, .int .i64 i.i), (7, .int .i64 l.length), (0, .pv (.sl (fz encB l))), (1, .bool b)], []⟩) (fun i => l.length - i.i) (Pass.start l _) (by refine ⟨rfl, rfl, by simp, ?_, ?_, .inl rfl⟩ <;> (repeat' apply And.intro) <;> first | rfl | trivial) ?_
  intro i
  have hi := i.hi
  simp (config := { maxSteps := 2000000 }) (disch := first | omega | assumption | (simp only [List.length_cons, List.length_nil, Nat.zero_add, Nat.reduceAdd]; done) | (simp only [IntKind.wrap_i64]; omega) | (simp only [List.length_replicate, List.length_set, List.length_append, List.length_cons, List.length_nil, List.length_take, List.length_drop, List.length_map] <;> omega) | fail) only [vop_binOp, vcallee_binOp, bin2_tmp, strip_pv, optV_none, ev_tmp, put_some, at_mk, fits_some, ↓look_cons, ↓vlook_t, ↓vlook_f, guard_none, ↓vrun_nil, ↓code_region, ↓code_seq, ↓onNormal_normal, bin_int, int_lss, evG_eq, ↓vrun_cons, ↓run1_some, ↓run2_none, ↓run3_some, ↓code_cond, ↓vtest_bool, Option.map_some, Nat.reduceLT, Nat.reduceBEq, Int.reduceLT, Int.reduceNeg, Int.reduceBEq, true_and, Bool.true_and, Bool.cond_self, beq_self_eq_true, dec_t]
  refine vbr_split (fun hc => ?_) (fun hc => ?_) <;> simp only [decide_eq_true_eq, decide_eq_false_iff_not, Bool.or_eq_true, Bool.and_eq_true, Bool.or_eq_false_iff, Bool.and_eq_false_imp, Bool.not_eq_true', Bool.not_eq_false', beq_iff_eq, beq_eq_false_iff_ne, bne_iff_ne, bne_eq_false_iff_eq, ne_eq] at hc
  · have hlt : i.i < l.length := by omega
    have hg := fzB_get l i.i hlt
    have hge : l.getD i.i false = l[i.i] := by rw [List.getD_eq_getElem?_getD, List.getElem?_eq_getElem hlt]; rfl
    simp (config := { maxSteps := 2000000 }) (disch := first | omega | assumption | (simp only [List.length_cons, List.length_nil, Nat.zero_add, Nat.reduceAdd]; done) | (simp only [IntKind.wrap_i64]; omega) | (simp only [List.length_replicate, List.length_set, List.length_append, List.length_cons, List.length_nil, List.length_take, List.length_drop, List.length_map] <;> omega) | fail) only [vop_move, vcallee_move, vop_assign, vcallee_assign, vop_load, vcallee_load, vop_binOp, vcallee_binOp, vop_indexAddr, vcallee_indexAddr, bin2_tmp, strip_pv, strip_ip, optV_none, ev_tmp, put_some, at_mk, fits_some, ↓look_cons, ↓vlook_t, ↓vlook_f, guard_none, ↓vrun_nil, ↓code_skip, ↓code_region, ↓code_seq, ↓code_block, ↓onNormal_normal, load_ip, vldp_one, iaddr_sl, vias_some, evG_eq, ↓vrun_cons, ↓run1_some, ↓run2_none, ↓run3_some, ↓code_cond, ↓vtest_bool, bin_bool, vbb_eql, List.getElem?_cons_zero, List.length_cons, List.length_nil, Option.map_some, Nat.reduceLT, Nat.reduceBEq, Int.reduceLT, Int.reduceNeg, Int.reduceBEq, Int.toNat_natCast, Nat.zero_add, true_and, Bool.true_and, Bool.cond_self, beq_self_eq_true, Try.vt4, Try.vkind4, Try.velem23, dec_t, hg]
    refine vbr_split (fun hx => ?_) (fun hx => ?_) <;> simp only [decide_eq_true_eq, decide_eq_false_iff_not, Bool.or_eq_true, Bool.and_eq_true, Bool.or_eq_false_iff, Bool.and_eq_false_imp, Bool.not_eq_true', Bool.not_eq_false', beq_iff_eq, beq_eq_false_iff_ne, bne_iff_ne, bne_eq_false_iff_eq, ne_eq] at hx
    · simp (config := { maxSteps := 2000000 }) (disch := first | omega | assumption | (simp only [List.length_cons, List.length_nil, Nat.zero_add, Nat.reduceAdd]; done) | (simp only [IntKind.wrap_i64]; omega) | (simp only [List.length_replicate, List.length_set, List.length_append, List.length_cons, List.length_nil, List.length_take, List.length_drop, List.length_map] <;> omega) | fail) only [vop_move, vcallee_move, vop_assign, vcallee_assign, strip_pv, optV_none, ev_tmp, put_some, at_mk, fits_some, ↓look_cons, ↓vlook_t, ↓vlook_f, guard_none, ↓vrun_nil, ↓code_region, ↓code_seq, ↓code_ret, ↓onNormal_normal, ↓onNormal_ret, ↓onBlock_ret, frz_pv, frzHeap_zero, res_one, vres_tmp, evG_eq, ↓vrun_cons, ↓run1_some, ↓run2_none, ↓run3_some, ↓vpost_ret, vfin_some, vfin2_some, at_hp, Nat.reduceLT, Nat.reduceBEq, Int.reduceLT, Int.reduceNeg, Int.reduceBEq, true_and, Bool.true_and, Bool.cond_self, beq_self_eq_true, dec_t, Ret, DV.nums]
      have hx2 : l[i.i] = b := by rw [← hge]; exact hx.symm
      rw [idxB_at l b i.i hlt hx2 i.no]
    · simp (config := { maxSteps := 2000000 }) (disch := first | omega | assumption | (simp only [List.length_cons, List.length_nil, Nat.zero_add, Nat.reduceAdd]; done) | (simp only [IntKind.wrap_i64]; omega) | (simp only [List.length_replicate, List.length_set, List.length_append, List.length_cons, List.length_nil, List.length_take, List.length_drop, List.length_map] <;> omega) | fail) only [vop_move, vcallee_move, vop_binOp, vcallee_binOp, bin2_int, strip_pv, optV_none, ev_tmp, ev_const, ofConst_int, put_some, at_mk, fits_some, ↓look_cons, ↓vlook_t, ↓vlook_f, guard_none, ↓vrun_nil, ↓code_skip, ↓code_region, ↓onNormal_normal, ↓onBlock_normal, bin_int, int_add, evG_eq, ↓vrun_cons, ↓run1_some, ↓run2_none, ↓run3_some, Option.map_some, Nat.reduceLT, Nat.reduceBEq, Int.reduceLT, Int.reduceNeg, Int.reduceBEq, true_and, Bool.true_and, Bool.cond_self, beq_self_eq_true, wrap_i64_in, dec_t]
      exact ⟨i.next hlt (by rw [← hge]; exact fun e => hx e.symm), by show l.length - (i.i + 1) < l.length - i.i; omega, (by refine ⟨rfl, rfl, by simp, ?_, ?_, .inl rfl⟩ <;> (repeat' apply And.intro) <;> first | rfl | trivial)⟩
  · simp (config := { maxSteps := 2000000 }) (disch := first | omega | assumption | (simp only [List.length_cons, List.length_nil, Nat.zero_add, Nat.reduceAdd]; done) | (simp only [IntKind.wrap_i64]; omega) | (simp only [List.length_replicate, List.length_set, List.length_append, List.length_cons, List.length_nil, List.length_take, List.length_drop, List.length_map] <;> omega) | fail) only [vop_assign, vcallee_assign, strip_pv, optV_none, ev_const, ofConst_int, put_some, at_mk, fits_some, ↓look_cons, ↓vlook_t, guard_none, ↓vrun_nil, ↓code_region, ↓code_seq, ↓code_exit, ↓code_ret, ↓onNormal_normal, ↓onNormal_exit, ↓onBlock_exit, frz_pv, frzHeap_zero, res_one, vres_tmp, evG_eq, ↓vrun_cons, ↓run1_some, ↓run2_none, ↓run3_some, ↓vpost_ret, vfin_some, vfin2_some, at_hp, ↓reduceIte, Nat.reduceLT, Int.reduceLT, Int.reduceNeg, true_and, Bool.true_and, Bool.cond_self, beq_self_eq_true, dec_t, dec_f, Ret, DV.nums]
    have := i.all (by omega)
    rw [idxB, if_neg (fun hm => this b hm rfl)]

theorem indexI_v (l : List Int) (b : Int) (hl : l.length ≤ 1000000) : VCalls Try.prog 26 [.pv (.sl (fz encI l)), .int .i64 b] [] (Ret (.int .i64 (idxI l b))) := by
  refine vcalls_drop (fn := Try.f26) Try.func26 rfl (by kernel_rfl) (by simp [Try.f26]) ?_
  simp (config := { maxSteps := 2000000 }) (disch := first | omega | assumption | (simp only [List.length_cons, List.length_nil, Nat.zero_add, Nat.reduceAdd]; done) | (simp only [IntKind.wrap_i64]; omega) | (simp only [List.length_replicate, List.length_set, List.length_append, List.length_cons, List.length_nil, List.length_take, List.length_drop, List.length_map] <;> omega) | fail) only [vop_move, vcallee_move, vop_assign, vcallee_assign, vop_builtin, vcallee_builtin, strip_pv, optV_none, ev_tmp, ev_const, ofConst_int, put_some, at_mk, fits_some, ↓look_cons, ↓vlook_t, ↓vlook_f, guard_none, ↓vrun_nil, ↓code_region, ↓code_seq, ↓code_block, ↓code_loop, ↓onNormal_normal, len_sl, vlk_sl, bi_len, enum_nil, enum_cons, evG_eq, ↓vrun_cons, ↓run1_some, ↓run2_none, ↓run3_some, List.map_nil, List.toList_toArray, List.length_nil, List.map_cons, List.map_nil, Option.map_some, Nat.reduceAdd, Nat.reduceLT, Nat.reduceBEq, Int.reduceLT, Int.reduceNeg, Int.reduceAdd, Int.reduceBEq, Nat.zero_add, true_and, Bool.true_and, Bool.cond_self, beq_self_eq_true, fz_len, Try.vkind24, dec_t, Try.f26]
  refine vloop (fun i : Pass l (fun x => x = b) => ⟨19, 0, [(8, .int .i64 i.i), (7, .int .i64 l.length), (0, .pv (.sl (fz encI l))), (1, .int .i64 b)], []⟩) (fun i => l.length - i.i) (Pass.start l _) (by refine ⟨rfl, rfl, by simp, ?_, ?_, .inl rfl⟩ <;> (repeat' apply And.intro) <;> first | rfl | trivial) ?_
  intro i
  have hi := i.hi
  simp (config := { maxSteps := 2000000 }) (disch := first | omega | assumption | (simp only [List.length_cons, List.length_nil, Nat.zero_add, Nat.reduceAdd]; done) | (simp only [IntKind.wrap_i64]; omega) | (simp only [List.length_replicate, List.length_set, List.length_append, List.length_cons, List.length_nil, List.length_take, List.length_drop, List.length_map] <;> omega) | fail) only [vop_binOp, vcallee_binOp, bin2_tmp, strip_pv, optV_none, ev_tmp, put_some, at_mk, fits_some, ↓look_cons, ↓vlook_t, ↓vlook_f, guard_none, ↓vrun_nil, ↓code_region, ↓code_seq, ↓onNormal_normal, bin_int, int_lss, evG_eq, ↓vrun_cons, ↓run1_some, ↓run2_none, ↓run3_some, ↓code_cond, ↓vtest_bool, Option.map_some, Nat.reduceLT, Nat.reduceBEq, Int.reduceLT, Int.reduceNeg, Int.reduceBEq, true_and, Bool.true_and, Bool.cond_self, beq_self_eq_true, dec_t]
  refine vbr_split (fun hc => ?_) (fun hc => ?_) <;> simp only [decide_eq_true_eq, decide_eq_false_iff_not, Bool.or_eq_true, Bool.and_eq_true, Bool.or_eq_false_iff, Bool.and_eq_false_imp, Bool.not_eq_true', Bool.not_eq_false', beq_iff_eq, beq_eq_false_iff_ne, bne_iff_ne, bne_eq_false_iff_eq, ne_eq] at hc
  · have hlt : i.i < l.length := by omega
    have hg := fzI_get l i.i hlt
    have hge : l.getD i.i 0 = l[i.i] := by rw [List.getD_eq_getElem?_getD, List.getElem?_eq_getElem hlt]; rfl
    simp (config := { maxSteps := 2000000 }) (disch := first | omega | assumption | (simp only [List.length_cons, List.length_nil, Nat.zero_add, Nat.reduceAdd]; done) | (simp only [IntKind.wrap_i64]; omega) | (simp only [List.length_replicate, List.length_set, List.length_append, List.length_cons, List.length_nil, List.length_take, List.length_drop, List.length_map] <;> omega) | fail) only [vop_move, vcallee_move, vop_assign, vcallee_assign, vop_load, vcallee_load, vop_binOp, vcallee_binOp, vop_indexAddr, vcallee_indexAddr, bin2_tmp, strip_pv, strip_ip, optV_none, ev_tmp, put_some, at_mk, fits_some, ↓look_cons, ↓vlook_t, ↓vlook_f, guard_none, ↓vrun_nil, ↓code_skip, ↓code_region, ↓code_seq, ↓code_block, ↓onNormal_normal, load_ip, vldp_one, iaddr_sl, vias_some, bin_int, int_eql, evG_eq, ↓vrun_cons, ↓run1_some, ↓run2_none, ↓run3_some, ↓code_cond, ↓vtest_bool, List.getElem?_cons_zero, List.length_cons, List.length_nil, Option.map_some, Nat.reduceLT, Nat.reduceBEq, Int.reduceLT, Int.reduceNeg, Int.reduceBEq, Int.toNat_natCast, Nat.zero_add, true_and, Bool.true_and, Bool.cond_self, beq_self_eq_true, Try.vt3, Try.velem24, dec_t, hg]
    refine vbr_split (fun hx => ?_) (fun hx => ?_) <;> simp only [decide_eq_true_eq, decide_eq_false_iff_not, Bool.or_eq_true, Bool.and_eq_true, Bool.or_eq_false_iff, Bool.and_eq_false_imp, Bool.not_eq_true', Bool.not_eq_false', beq_iff_eq, beq_eq_false_iff_ne, bne_iff_ne, bne_eq_false_iff_eq, ne_eq] at hx
    · simp (config := { maxSteps := 2000000 }) (disch := first | omega | assumption | (simp only [List.length_cons, List.length_nil, Nat.zero_add, Nat.reduceAdd]; done) | (simp only [IntKind.wrap_i64]; omega) | (simp only [List.length_replicate, List.length_set, List.length_append, List.length_cons, List.length_nil, List.length_take, List.length_drop, List.length_map] <;> omega) | fail) only [vop_move, vcallee_move, vop_assign, vcallee_assign, strip_pv, optV_none, ev_tmp, put_some, at_mk, fits_some, ↓look_cons, ↓vlook_t, ↓vlook_f, guard_none, ↓vrun_nil, ↓code_region, ↓code_seq, ↓code_ret, ↓onNormal_normal, ↓onNormal_ret, ↓onBlock_ret, frz_pv, frzHeap_zero, res_one, vres_tmp, evG_eq, ↓vrun_cons, ↓run1_some, ↓run2_none, ↓run3_some, ↓vpost_ret, vfin_some, vfin2_some, at_hp, Nat.reduceLT, Nat.reduceBEq, Int.reduceLT, Int.reduceNeg, Int.reduceBEq, true_and, Bool.true_and, Bool.cond_self, beq_self_eq_true, dec_t, int_beq_t, Ret, DV.nums]
      have hx2 : l[i.i] = b := by rw [← hge]; exact hx.symm
      rw [idxI_at l b i.i hlt hx2 i.no]
    · simp (config := { maxSteps := 2000000 }) (disch := first | omega | assumption | (simp only [List.length_cons, List.length_nil, Nat.zero_add, Nat.reduceAdd]; done) | (simp only [IntKind.wrap_i64]; omega) | (simp only [List.length_replicate, List.length_set, List.length_append, List.length_cons, List.length_nil, List.length_take, List.length_drop, List.length_map] <;> omega) | fail) only [vop_move, vcallee_move, vop_binOp, vcallee_binOp, bin2_int, strip_pv, optV_none, ev_tmp, ev_const, ofConst_int, put_some, at_mk, fits_some, ↓look_cons, ↓vlook_t, ↓vlook_f, guard_none, ↓vrun_nil, ↓code_skip, ↓code_region, ↓onNormal_normal, ↓onBlock_normal, bin_int, int_add, evG_eq, ↓vrun_cons, ↓run1_some, ↓run2_none, ↓run3_some, Option.map_some, Nat.reduceLT, Nat.reduceBEq, Int.reduceLT, Int.reduceNeg, Int.reduceBEq, true_and, Bool.true_and, Bool.cond_self, beq_self_eq_true, wrap_i64_in, dec_t, int_beq_f]
      exact ⟨i.next hlt (by rw [← hge]; exact fun e => hx e.symm), by show l.length - (i.i + 1) < l.length - i.i; omega, (by refine ⟨rfl, rfl, by simp, ?_, ?_, .inl rfl⟩ <;> (repeat' apply And.intro) <;> first | rfl | trivial)⟩
  · simp (config := { maxSteps := 2000000 }) (disch := first | omega | assumption | (simp only [List.length_cons, List.length_nil, Nat.zero_add, Nat.reduceAdd]; done) | (simp only [IntKind.wrap_i64]; omega) | (simp only [List.length_replicate, List.length_set, List.length_append, List.length_cons, List.length_nil, List.length_take, List.length_drop, List.length_map] <;> omega) | fail) only [vop_assign, vcallee_assign, strip_pv, optV_none, ev_const, ofConst_int, put_some, at_mk, fits_some, ↓look_cons, ↓vlook_t, guard_none, ↓vrun_nil, ↓code_region, ↓code_seq, ↓code_exit, ↓code_ret, ↓onNormal_normal, ↓onNormal_exit, ↓onBlock_exit, frz_pv, frzHeap_zero, res_one, vres_tmp, evG_eq, ↓vrun_cons, ↓run1_some, ↓run2_none, ↓run3_some, ↓vpost_ret, vfin_some, vfin2_some, at_hp, ↓reduceIte, Nat.reduceLT, Int.reduceLT, Int.reduceNeg, true_and, Bool.true_and, Bool.cond_self, beq_self_eq_true, dec_t, dec_f, Ret, DV.nums]
    have := i.all (by omega)
    rw [idxI, if_neg (fun hm => this b hm rfl)]

theorem containsB_v (l : List Bool) (b : Bool) (hl : l.length ≤ 1000000) : VCalls Try.prog 25 [.pv (.sl (fz encB l)), .bool b] [] (Ret (.bool (decide (b ∈ l)))) := by
  refine vcalls_drop (fn := Try.f25) Try.func25 rfl (by kernel_rfl) (by simp [Try.f25]) ?_
  simp (config := { maxSteps := 2000000 }) (disch := first | omega | assumption | (simp only [List.length_cons, List.length_nil, Nat.zero_add, Nat.reduceAdd]; done) | (simp only [IntKind.wrap_i64]; omega) | (simp only [List.length_replicate, List.length_set, List.length_append, List.length_cons, List.length_nil, List.length_take, List.length_drop, List.length_map] <;> omega) | fail) only [vop_move, vcallee_move, vop_assign, vcallee_assign, vcallee_value, vcal_fn, strip_pv, strip_fn, optV_none, ev_tmp, ev_const, ev_func, ofConst_bool, put_some, at_mk, fits_some, ↓look_cons, ↓vlook_t, ↓vlook_f, guard_none, ↓vrun_nil, ↓code_region, ↓code_seq, ↓onNormal_normal, enum_nil, enum_cons, evG_eq, ↓vrun_cons, ↓run1_some, ↓run2_none, ↓run2_some, ↓run3_some, ↓vcg_none, List.map_nil, List.toList_toArray, List.length_nil, List.map_cons, List.map_nil, List.nil_append, List.append_nil, Nat.reduceAdd, Nat.reduceLT, Nat.reduceBEq, Int.reduceLT, Int.reduceAdd, Int.reduceBEq, Nat.zero_add, true_and, Bool.true_and, Bool.cond_self, beq_self_eq_true, dec_t, Try.f25]
  refine vc_pure (indexB_v l b hl) rfl ?_
  by_cases h : b ∈ l
  · have : 0 ≤ idxB l b := by rw [idxB, if_pos h]; omega
    simp (config := { maxSteps := 2000000 }) (disch := first | omega | assumption | (simp only [List.length_cons, List.length_nil, Nat.zero_add, Nat.reduceAdd]; done) | (simp only [IntKind.wrap_i64]; omega) | (simp only [List.length_replicate, List.length_set, List.length_append, List.length_cons, List.length_nil, List.length_take, List.length_drop, List.length_map] <;> omega) | fail) only [vop_assign, vcallee_assign, vop_binOp, vcallee_binOp, bin2_int, strip_pv, optV_none, ev_tmp, ev_const, ofConst_int, put_some, at_mk, fits_some, ↓look_cons, ↓vlook_t, guard_none, ↓vrun_nil, ↓code_ret, ↓onNormal_normal, frz_pv, frzHeap_zero, res_one, vres_tmp, bin_int, int_geq, evG_eq, ↓vrun_cons, ↓run1_some, ↓run2_none, ↓run3_some, ↓runK_eq, ↓vpost_ret, vfin_some, vfin2_some, at_hp, Option.map_some, Nat.reduceLT, Int.reduceLT, and_self, Bool.and_self, Bool.cond_self, beq_self_eq_true, dec_t, Ret, DV.nums, h]
  · have : ¬ 0 ≤ idxB l b := by rw [idxB, if_neg h]; omega
    simp (config := { maxSteps := 2000000 }) (disch := first | omega | assumption | (simp only [List.length_cons, List.length_nil, Nat.zero_add, Nat.reduceAdd]; done) | (simp only [IntKind.wrap_i64]; omega) | (simp only [List.length_replicate, List.length_set, List.length_append, List.length_cons, List.length_nil, List.length_take, List.length_drop, List.length_map] <;> omega) | fail) only [vop_assign, vcallee_assign, vop_binOp, vcallee_binOp, bin2_int, strip_pv, optV_none, ev_tmp, ev_const, ofConst_int, put_some, at_mk, fits_some, ↓look_cons, ↓vlook_t, guard_none, ↓vrun_nil, ↓code_ret, ↓onNormal_normal, frz_pv, frzHeap_zero, res_one, vres_tmp, bin_int, int_geq, evG_eq, ↓vrun_cons, ↓run1_some, ↓run2_none, ↓run3_some, ↓runK_eq, ↓vpost_ret, vfin_some, vfin2_some, at_hp, Option.map_some, Nat.reduceLT, Int.reduceLT, decide_false, and_self, Bool.and_self, Bool.cond_self, beq_self_eq_true, dec_t, dec_f, Ret, DV.nums, h]

theorem containsI_v (l : List Int) (b : Int) (hl : l.length ≤ 1000000) : VCalls Try.prog 18 [.pv (.sl (fz encI l)), .int .i64 b] [] (Ret (.bool (decide (b ∈ l)))) := by
  refine vcalls_drop (fn := Try.f18) Try.func18 rfl (by kernel_rfl) (by simp [Try.f18]) ?_
  simp (config := { maxSteps := 2000000 }) (disch := first | omega | assumption | (simp only [List.length_cons, List.length_nil, Nat.zero_add, Nat.reduceAdd]; done) | (simp only [IntKind.wrap_i64]; omega) | (simp only [List.length_replicate, List.length_set, List.length_append, List.length_cons, List.length_nil, List.length_take, List.length_drop, List.length_map] <;> omega) | fail) only [vop_move, vcallee_move, vop_assign, vcallee_assign, vcallee_value, vcal_fn, strip_pv, strip_fn, optV_none, ev_tmp, ev_const, ev_func, ofConst_bool, put_some, at_mk, fits_some, ↓look_cons, ↓vlook_t, ↓vlook_f, guard_none, ↓vrun_nil, ↓code_region, ↓code_seq, ↓onNormal_normal, enum_nil, enum_cons, evG_eq, ↓vrun_cons, ↓run1_some, ↓run2_none, ↓run2_some, ↓run3_some, ↓vcg_none, List.map_nil, List.toList_toArray, List.length_nil, List.map_cons, List.map_nil, List.nil_append, List.append_nil, Nat.reduceAdd, Nat.reduceLT, Nat.reduceBEq, Int.reduceLT, Int.reduceAdd, Int.reduceBEq, Nat.zero_add, true_and, Bool.true_and, Bool.cond_self, beq_self_eq_true, dec_t, Try.f18]
  refine vc_pure (indexI_v l b hl) rfl ?_
  by_cases h : b ∈ l
  · have : 0 ≤ idxI l b := by rw [idxI, if_pos h]; omega
    simp (config := { maxSteps := 2000000 }) (disch := first | omega | assumption | (simp only [List.length_cons, List.length_nil, Nat.zero_add, Nat.reduceAdd]; done) | (simp only [IntKind.wrap_i64]; omega) | (simp only [List.length_replicate, List.length_set, List.length_append, List.length_cons, List.length_nil, List.length_take, List.length_drop, List.length_map] <;> omega) | fail) only [vop_assign, vcallee_assign, vop_binOp, vcallee_binOp, bin2_int, strip_pv, optV_none, ev_tmp, ev_const, ofConst_int, put_some, at_mk, fits_some, ↓look_cons, ↓vlook_t, guard_none, ↓vrun_nil, ↓code_ret, ↓onNormal_normal, frz_pv, frzHeap_zero, res_one, vres_tmp, bin_int, int_geq, evG_eq, ↓vrun_cons, ↓run1_some, ↓run2_none, ↓run3_some, ↓runK_eq, ↓vpost_ret, vfin_some, vfin2_some, at_hp, Option.map_some, Nat.reduceLT, Int.reduceLT, and_self, Bool.and_self, Bool.cond_self, beq_self_eq_true, dec_t, Ret, DV.nums, h]
  · have : ¬ 0 ≤ idxI l b := by rw [idxI, if_neg h]; omega
    simp (config := { maxSteps := 2000000 }) (disch := first | omega | assumption | (simp only [List.length_cons, List.length_nil, Nat.zero_add, Nat.reduceAdd]; done) | (simp only [IntKind.wrap_i64]; omega) | (simp only [List.length_replicate, List.length_set, List.length_append, List.length_cons, List.length_nil, List.length_take, List.length_drop, List.length_map] <;> omega) | fail) only [vop_assign, vcallee_assign, vop_binOp, vcallee_binOp, bin2_int, strip_pv, optV_none, ev_tmp, ev_const, ofConst_int, put_some, at_mk, fits_some, ↓look_cons, ↓vlook_t, guard_none, ↓vrun_nil, ↓code_ret, ↓onNormal_normal, frz_pv, frzHeap_zero, res_one, vres_tmp, bin_int, int_geq, evG_eq, ↓vrun_cons, ↓run1_some, ↓run2_none, ↓run3_some, ↓runK_eq, ↓vpost_ret, vfin_some, vfin2_some, at_hp, Option.map_some, Nat.reduceLT, Int.reduceLT, decide_false, and_self, Bool.and_self, Bool.cond_self, beq_self_eq_true, dec_t, dec_f, Ret, DV.nums, h]

end Go.Proofs.Ytheibaofmffkkaa

namespace Go.Proofs.Ytheibaofmffkkaa
open Go.V Go
set_option maxRecDepth 100000
set_option linter.unusedSimpArgs false

/-- A valid restoration. -/
def M.ok (m : M) : Prop :=
  (m.on = false → m.done = [] ∧ m.wait = []) ∧
  (m.on = true → 1 ≤ m.done.length ∧ m.done.length ≤ 16 ∧ false ∈ m.done) ∧
  m.wait.Nodup ∧ (∀ s ∈ m.wait, 0 ≤ s ∧ s < m.done.length ∧ m.done.getD s.toNat false = false)

theorem rep_getD (n k : Nat) : (List.replicate n false).getD k false = false := by
  rw [List.getD_eq_getElem?_getD, List.getElem?_replicate]; split <;> rfl

structure VS (m : M) where
  i : Nat
  hi : i ≤ m.wait.length
  seen : List Bool
  hl : seen.length = m.done.length
  no : ∀ k, i ≤ k → k < m.wait.length → seen.getD (m.wait.getD k 0).toNat false = false

set_option maxHeartbeats 4000000 in
theorem valid_v (m : M) (h : m.ok) (hw : m.wait.length ≤ 1000) : VCalls Try.prog 16 [.agg m.d] [] (Ret (.bool true)) := by
  obtain ⟨h0, h1, hnd, hm⟩ := h
  refine vcalls_drop (fn := Try.f16) Try.func16 rfl (by kernel_rfl) (by simp [Try.f16]) ?_
  obtain ⟨on, done, wait⟩ := m
  cases on
  · obtain ⟨hd, hwt⟩ := h0 rfl
    cases hd; cases hwt
    simp (config := { maxSteps := 2000000 }) (disch := first | omega | assumption | (simp only [List.length_cons, List.length_nil, Nat.zero_add, Nat.reduceAdd]; done) | (simp only [IntKind.wrap_i64]; omega) | (simp only [List.length_replicate, List.length_set, List.length_append, List.length_cons, List.length_nil, List.length_take, List.length_drop, List.length_map] <;> omega) | fail) only [vop_assign, vcallee_assign, vop_box, vcallee_box, vop_load, vcallee_load, vop_binOp, vcallee_binOp, vop_unOp, vcallee_unOp, vop_fieldAddr, vcallee_fieldAddr, vop_builtin, vcallee_builtin, bin2_tmp, bin2_int, strip_pv, strip_ptr, strip_agg, optV_none, ev_tmp, ev_const, ofConst_int, ofConst_bool, put_some, at_mk, fits_some, ↓look_cons, ↓vlook_t, ↓vlook_f, guard_none, ↓vrun_nil, ↓code_region, ↓code_seq, ↓code_ret, ↓onNormal_normal, ↓onNormal_ret, frz_pv, frzHeap_zero, res_one, vres_tmp, load_ptr, vld_one, blk_zero, box_eq, allOne_nil, allOne_cons, one_pv, faddr_ptr, vfap_some, bin_int, int_add, int_eql, un_not, len_sl, vlk_sl, bi_len, enum_nil, enum_cons, evG_eq, ↓vrun_cons, ↓run1_some, ↓run2_none, ↓run3_some, ↓code_cond, ↓vtest_bool, ↓vbr_true, ↓vpost_ret, vfin_some, vfin2_some, at_hp, List.map_nil, dcells, List.toList_toArray, List.getElem?_cons_zero, List.getElem?_cons_succ, List.length_nil, List.map_cons, List.map_nil, List.nil_append, Option.map_some, ↓reduceIte, reduceCtorEq, Nat.reduceLT, Nat.reduceBEq, Int.reduceLT, Int.reduceBEq, Nat.zero_add, Nat.add_zero, and_self, Bool.not_false, Bool.and_self, cond_true, Bool.cond_self, beq_self_eq_true, fz_len, Try.vt4, Try.vt23, Try.vkind23, Try.vt24, Try.vkind24, Try.vfield26x0, Try.vfield26x1, Try.vfield26x2, wrap_i64_in, dec_t, int_beq_t, Ret, DV.nums, Try.f16, M.d]
  · obtain ⟨g1, g2, g3⟩ := h1 rfl
    dsimp only at *
    have n1 : ¬ (done.length : Int) < 1 := by omega
    have n2 : ¬ 16 < (done.length : Int) := by omega
    simp (config := { maxSteps := 2000000 }) (disch := first | omega | assumption | (simp only [List.length_cons, List.length_nil, Nat.zero_add, Nat.reduceAdd]; done) | (simp only [IntKind.wrap_i64]; omega) | (simp only [List.length_replicate, List.length_set, List.length_append, List.length_cons, List.length_nil, List.length_take, List.length_drop, List.length_map] <;> omega) | fail) only [vop_move, vcallee_move, vop_assign, vcallee_assign, vop_pick, vcallee_pick, vop_box, vcallee_box, vop_load, vcallee_load, vop_binOp, vcallee_binOp, vop_unOp, vcallee_unOp, vop_fieldAddr, vcallee_fieldAddr, vop_builtin, vcallee_builtin, vcallee_value, vcal_fn, bin2_int, vpick_bool, strip_pv, strip_ptr, strip_agg, strip_fn, strip_opt, vstr_true, optV_none, optV_some, pickV_bool, ev_tmp, ev_const, ev_func, ofConst_int, ofConst_bool, put_some, at_mk, fits_some, ↓look_cons, ↓vlook_t, ↓vlook_f, guard_none, guard_some, vgof_bool, ↓vrun_nil, ↓code_skip, ↓code_region, ↓code_seq, ↓onNormal_normal, load_ptr, vld_one, blk_zero, box_eq, allOne_nil, allOne_cons, one_pv, faddr_ptr, vfap_some, bin_int, int_lss, int_gtr, un_not, len_sl, vlk_sl, bi_len, enum_nil, enum_cons, evG_eq, ↓vrun_cons, ↓run1_some, ↓run2_none, ↓run2_some, ↓run3_some, ↓vcg_some, ↓code_cond, ↓vtest_bool, ↓vbr_false, at_hp, List.map_nil, dcells, List.toList_toArray, List.getElem?_cons_zero, List.getElem?_cons_succ, List.length_nil, List.map_cons, List.map_nil, List.nil_append, List.append_nil, Option.map_some, Option.bind_some, ↓reduceIte, reduceCtorEq, Nat.reduceLT, Nat.reduceBEq, Int.reduceLT, Int.reduceBEq, Nat.zero_add, Nat.add_zero, decide_false, true_and, and_self, or_true, Bool.not_true, Bool.not_false, Bool.or_true, Bool.true_and, Bool.and_self, cond_true, cond_false, Bool.cond_self, beq_self_eq_true, fz_len, Try.vt4, Try.vt23, Try.vkind23, Try.vfield26x0, Try.vfield26x1, dec_t, Try.f16, M.d, n1, n2]
    refine vcg_pure (fun _ => containsB_v done false (by omega)) rfl ?_
    simp (config := { maxSteps := 2000000 }) (disch := first | omega | assumption | (simp only [List.length_cons, List.length_nil, Nat.zero_add, Nat.reduceAdd]; done) | (simp only [IntKind.wrap_i64]; omega) | (simp only [List.length_replicate, List.length_set, List.length_append, List.length_cons, List.length_nil, List.length_take, List.length_drop, List.length_map] <;> omega) | fail) only [vop_move, vcallee_move, vop_assign, vcallee_assign, vop_pick, vcallee_pick, vop_load, vcallee_load, vop_unOp, vcallee_unOp, vop_makeSlice, vcallee_makeSlice, vop_fieldAddr, vcallee_fieldAddr, vop_builtin, vcallee_builtin, vpick_bool, strip_pv, strip_ptr, strip_own, strip_opt, vstr_true, optV_none, optV_some, pickV_bool, ev_tmp, ev_const, ofConst_int, ofConst_bool, put_some, at_mk, fits_some, ↓look_cons, ↓vlook_t, ↓vlook_f, guard_none, guard_some, vgof_bool, ↓vrun_nil, ↓code_skip, ↓code_region, ↓code_seq, ↓code_block, ↓code_loop, ↓onNormal_normal, load_ptr, vld_one, blk_zero, allOne_nil, allOne_cons, one_pv, faddr_ptr, vfap_some, un_not, len_sl, vlk_sl, bi_len, evG_eq, ↓vrun_cons, ↓run1_some, ↓run2_none, ↓run3_some, ↓runK_eq, ↓code_cond, ↓vtest_bool, ↓vbr_false, List.map_nil, vmake, List.getElem?_cons_zero, List.getElem?_cons_succ, List.length_cons, List.length_nil, List.map_cons, List.map_nil, List.cons_append, List.nil_append, Option.map_some, Option.bind_some, ↓reduceIte, reduceCtorEq, Nat.reduceLT, Nat.reduceBEq, Int.reduceLT, Int.reduceBEq, Int.toNat_natCast, Nat.zero_add, true_and, and_true, and_self, or_true, Bool.not_true, Bool.not_false, Bool.or_true, Bool.and_true, Bool.true_and, Bool.and_self, cond_true, cond_false, Bool.cond_self, beq_self_eq_true, make_ite, fz_len, mkB, Try.vzero4, Try.bytes4, Try.vt23, Try.velem23, Try.vkind23, Try.vt24, Try.vkind24, Try.vfield26x1, Try.vfield26x2, dec_t, g3]
    refine vloop (fun i : VS ⟨true, done, wait⟩ => ⟨70, 0, [(40, .int .i64 i.i), (39, .int .i64 wait.length), (38, .pv (.sl (fz encI wait))), (3, .own 1 1 0 done.length), (1, .ptr 0 0)], [⟨26, true, M.d ⟨true, done, wait⟩⟩, ⟨4, true, cells encB i.seen⟩]⟩) (fun i => wait.length - i.i) ⟨0, by omega, List.replicate done.length false, by simp, by intro k _ _; rw [rep_getD]⟩ (by refine ⟨rfl, rfl, by simp, ?_, ?_, .inr ⟨?_, ?_⟩⟩ <;> (repeat' apply And.intro) <;> first | rfl | trivial | (intro _; first | rfl | apply cells_refs)) ?_
    intro i
    have hi := i.hi
    dsimp only at hi
    simp (config := { maxSteps := 2000000 }) (disch := first | omega | assumption | (simp only [List.length_cons, List.length_nil, Nat.zero_add, Nat.reduceAdd]; done) | (simp only [IntKind.wrap_i64]; omega) | (simp only [List.length_replicate, List.length_set, List.length_append, List.length_cons, List.length_nil, List.length_take, List.length_drop, List.length_map] <;> omega) | fail) only [vop_binOp, vcallee_binOp, bin2_tmp, strip_pv, optV_none, ev_tmp, put_some, at_mk, fits_some, ↓look_cons, ↓vlook_t, ↓vlook_f, guard_none, ↓vrun_nil, ↓code_region, ↓code_seq, ↓onNormal_normal, bin_int, int_lss, evG_eq, ↓vrun_cons, ↓run1_some, ↓run2_none, ↓run3_some, ↓code_cond, ↓vtest_bool, Option.map_some, Nat.reduceLT, Nat.reduceBEq, Int.reduceLT, Int.reduceBEq, true_and, Bool.true_and, Bool.cond_self, beq_self_eq_true, dec_t, M.d]
    refine vbr_split (fun hc => ?_) (fun hc => ?_) <;> simp only [decide_eq_true_eq, decide_eq_false_iff_not, Bool.or_eq_true, Bool.and_eq_true, Bool.or_eq_false_iff, Bool.and_eq_false_imp, Bool.not_eq_true', Bool.not_eq_false', beq_iff_eq, beq_eq_false_iff_ne, bne_iff_ne, bne_eq_false_iff_eq, ne_eq] at hc
    · have hlt : i.i < wait.length := by omega
      have hg := fzI_get wait i.i hlt
      have hmem : wait.getD i.i 0 ∈ wait := by rw [List.getD_eq_getElem?_getD, List.getElem?_eq_getElem hlt]; exact List.getElem_mem hlt
      obtain ⟨m1, m2, m3⟩ := hm _ hmem
      have hno := i.no i.i (Nat.le_refl _) hlt
      dsimp only at hno
      have q1 : ¬ wait.getD i.i 0 < 0 := by omega
      have q2 : ¬ (done.length : Int) ≤ wait.getD i.i 0 := by omega
      have hb := fzB_get done (wait.getD i.i 0).toNat (by omega)
      have hlen := i.hl
      have hb2 := cellsB_get i.seen (wait.getD i.i 0).toNat (by rw [hlen]; dsimp only; omega)
      have hls : (wait.getD i.i 0).toNat < i.seen.length := by rw [hlen]; dsimp only; omega
      simp (config := { maxSteps := 2000000 }) (disch := first | omega | assumption | (simp only [List.length_cons, List.length_nil, Nat.zero_add, Nat.reduceAdd]; done) | (simp only [IntKind.wrap_i64]; omega) | (simp only [List.length_replicate, List.length_set, List.length_append, List.length_cons, List.length_nil, List.length_take, List.length_drop, List.length_map] <;> omega) | fail) only [vop_move, vcallee_move, vop_assign, vcallee_assign, vop_pick, vcallee_pick, vop_load, vcallee_load, vop_store, vcallee_store, vop_binOp, vcallee_binOp, vop_fieldAddr, vcallee_fieldAddr, vop_indexAddr, vcallee_indexAddr, vop_builtin, vcallee_builtin, bin2_tmp, bin2_int, vpick_bool, strip_pv, strip_ptr, strip_own, strip_ip, strip_opt, vstr_true, optV_none, optV_some, pickV_bool, ev_tmp, ev_const, ofConst_int, ofConst_bool, put_some, put_none, at_mk, fits_some, fits_none, ↓look_cons, ↓vlook_t, ↓vlook_f, guard_none, guard_some, vgof_bool, ↓vrun_nil, ↓code_skip, ↓code_region, ↓code_seq, ↓code_block, ↓onNormal_normal, ↓onBlock_normal, load_ptr, load_ip, vld_one, vldp_one, store_ptr, vst_one, blk_zero, blk_succ, set_zero, set_succ, one_pv, faddr_ptr, vfap_some, iaddr_sl, vias_some, iaddr_own, viao_some, bin_int, int_add, int_lss, int_geq, len_sl, vlk_sl, bi_len, evG_eq, ↓vrun_cons, ↓run1_some, ↓run2_none, ↓run3_some, ↓code_cond, ↓vtest_bool, ↓vbr_false, List.map_nil, List.getElem?_cons_zero, List.getElem?_cons_succ, List.length_cons, List.length_nil, List.map_cons, List.map_nil, Option.map_some, Option.bind_some, ↓reduceIte, reduceCtorEq, Nat.reduceLT, Nat.reduceBEq, Int.reduceLT, Int.reduceBEq, Int.toNat_natCast, Nat.zero_add, Nat.mul_one, decide_false, true_and, and_self, or_true, Bool.not_true, Bool.not_false, Bool.or_true, Bool.true_and, Bool.and_self, cond_true, cond_false, Bool.cond_self, beq_self_eq_true, fz_len, cellsB_len, cellsB_set, Try.vt3, Try.vt4, Try.vt23, Try.velem23, Try.vkind23, Try.velem24, Try.vfield26x1, wrap_i64_in, dec_t, hg, q1, q2, hb, m3, hb2, hno, hls]
      refine ⟨⟨i.i + 1, hlt, i.seen.set (wait.getD i.i 0).toNat true, by rw [List.length_set, hlen], ?_⟩, by show wait.length - (i.i + 1) < wait.length - i.i; omega, (by refine ⟨rfl, rfl, by simp, ?_, ?_, .inr ⟨?_, ?_⟩⟩ <;> (repeat' apply And.intro) <;> first | rfl | trivial | (intro _; first | rfl | apply cells_refs))⟩
      intro k k1 k2
      dsimp only at k2 ⊢
      rw [getD_set _ _ _ _ _ hls, if_neg]
      · exact i.no k (by omega) k2
      · intro e
        have hmk : wait.getD k 0 ∈ wait := by rw [List.getD_eq_getElem?_getD, List.getElem?_eq_getElem k2]; exact List.getElem_mem k2
        obtain ⟨l1, _, _⟩ := hm _ hmk
        have e2 : wait.getD i.i 0 = wait.getD k 0 := by omega
        rw [List.getD_eq_getElem?_getD, List.getD_eq_getElem?_getD, List.getElem?_eq_getElem k2, List.getElem?_eq_getElem hlt] at e2
        exact List.pairwise_iff_getElem.mp hnd i.i k hlt k2 (by omega) e2
    · simp (config := { maxSteps := 2000000 }) (disch := first | omega | assumption | (simp only [List.length_cons, List.length_nil, Nat.zero_add, Nat.reduceAdd]; done) | (simp only [IntKind.wrap_i64]; omega) | (simp only [List.length_replicate, List.length_set, List.length_append, List.length_cons, List.length_nil, List.length_take, List.length_drop, List.length_map] <;> omega) | fail) only [vop_assign, vcallee_assign, strip_pv, optV_none, ev_const, ofConst_bool, put_some, at_mk, fits_some, ↓look_cons, ↓vlook_t, guard_none, ↓vrun_nil, ↓code_region, ↓code_seq, ↓code_exit, ↓code_ret, ↓onNormal_normal, ↓onNormal_exit, ↓onBlock_exit, frz_pv, frzHeap_zero, res_one, vres_tmp, evG_eq, ↓vrun_cons, ↓run1_some, ↓run2_none, ↓run3_some, ↓vpost_ret, vfin_some, vfin2_some, at_hp, ↓reduceIte, Nat.reduceLT, Int.reduceLT, and_self, Bool.and_self, Bool.cond_self, beq_self_eq_true, dec_t, dec_f, Ret, DV.nums]

def M.there (m : M) (p : Int) : Bool := !m.on || (decide (0 ≤ ofP p) && decide (ofP p < m.done.length) && m.done.getD (ofP p).toNat false)

theorem there_v (m : M) (h : m.ok) (hw : m.wait.length ≤ 1000) (n : Int) (hn : -9223372036854775808 ≤ n ∧ n ≤ 9223372036854775807) : VCalls Try.prog 9 [.agg m.d, .int .i64 n] [] (Ret (.bool (m.there n))) := by
  refine vcalls_drop (fn := Try.f9) Try.func9 rfl (by kernel_rfl) (by simp [Try.f9]) ?_
  simp (config := { maxSteps := 2000000 }) (disch := first | omega | assumption | (simp only [List.length_cons, List.length_nil, Nat.zero_add, Nat.reduceAdd]; done) | (simp only [IntKind.wrap_i64]; omega) | (simp only [List.length_replicate, List.length_set, List.length_append, List.length_cons, List.length_nil, List.length_take, List.length_drop, List.length_map] <;> omega) | fail) only [vop_move, vcallee_move, vop_assign, vcallee_assign, vop_box, vcallee_box, vcallee_value, vcal_fn, strip_pv, strip_agg, strip_fn, optV_none, ev_tmp, ev_const, ev_func, ofConst_bool, put_some, at_mk, fits_some, ↓look_cons, ↓vlook_t, ↓vlook_f, guard_none, ↓vrun_nil, ↓code_region, ↓code_seq, ↓onNormal_normal, box_eq, allOne_nil, allOne_cons, one_pv, enum_nil, enum_cons, evG_eq, ↓vrun_cons, ↓run1_some, ↓run2_none, ↓run2_some, ↓run3_some, ↓vcg_none, List.map_nil, dcells, List.toList_toArray, List.length_nil, List.map_cons, List.map_nil, List.nil_append, List.append_nil, ↓reduceIte, Nat.reduceAdd, Nat.reduceLT, Nat.reduceBEq, Int.reduceLT, Int.reduceAdd, Int.reduceBEq, Nat.zero_add, true_and, and_self, Bool.true_and, Bool.and_self, cond_true, Bool.cond_self, beq_self_eq_true, dec_t, Try.f9, M.d]
  refine vc_pure (of_v n hn) rfl ?_
  simp (config := { maxSteps := 2000000 }) (disch := first | omega | assumption | (simp only [List.length_cons, List.length_nil, Nat.zero_add, Nat.reduceAdd]; done) | (simp only [IntKind.wrap_i64]; omega) | (simp only [List.length_replicate, List.length_set, List.length_append, List.length_cons, List.length_nil, List.length_take, List.length_drop, List.length_map] <;> omega) | fail) only [vop_assign, vcallee_assign, vop_load, vcallee_load, vcallee_value, vcal_fn, strip_pv, strip_ptr, strip_agg, strip_fn, optV_none, ev_tmp, ev_func, put_some, at_mk, fits_some, ↓look_cons, ↓vlook_t, ↓vlook_f, guard_none, ↓vrun_nil, ↓code_region, ↓code_seq, ↓code_block, ↓onNormal_normal, load_ptr, vld_agg, blk_zero, evG_eq, ↓vrun_cons, ↓run1_some, ↓run2_none, ↓run2_some, ↓run3_some, ↓runK_eq, ↓vcg_none, List.map_nil, List.length_cons, List.length_nil, List.map_cons, List.map_nil, List.nil_append, List.append_nil, List.take_succ_cons, List.take_nil, List.drop_zero, Option.map_some, ↓reduceIte, Nat.reduceAdd, Nat.reduceLT, Nat.reduceBEq, Int.reduceLT, Int.reduceAdd, Int.reduceBEq, Nat.zero_add, true_and, Bool.true_and, Bool.cond_self, beq_self_eq_true, Nat.le_refl, Try.vt26, dec_t]
  refine vc_pure (valid_v m h hw) rfl ?_
  have ho : -1 ≤ ofP n := by unfold ofP; split <;> omega
  generalize hop : ofP n = o at ho
  obtain ⟨on, done, wait⟩ := m
  cases on
  · simp (config := { maxSteps := 2000000 }) (disch := first | omega | assumption | (simp only [List.length_cons, List.length_nil, Nat.zero_add, Nat.reduceAdd]; done) | (simp only [IntKind.wrap_i64]; omega) | (simp only [List.length_replicate, List.length_set, List.length_append, List.length_cons, List.length_nil, List.length_take, List.length_drop, List.length_map] <;> omega) | fail) only [vop_assign, vcallee_assign, vop_load, vcallee_load, vop_unOp, vcallee_unOp, vop_fieldAddr, vcallee_fieldAddr, strip_pv, strip_ptr, optV_none, ev_tmp, ev_const, ofConst_bool, put_some, at_mk, fits_some, ↓look_cons, ↓vlook_t, ↓vlook_f, guard_none, ↓vrun_nil, ↓code_region, ↓code_seq, ↓code_ret, ↓onNormal_normal, ↓onBlock_ret, frz_pv, frzHeap_zero, res_one, vres_tmp, load_ptr, vld_one, blk_zero, faddr_ptr, vfap_some, un_not, evG_eq, ↓vrun_cons, ↓run1_some, ↓run2_none, ↓run3_some, ↓runK_eq, ↓code_cond, ↓vtest_bool, ↓vbr_true, ↓vbr_false, ↓vpost_ret, vfin_some, vfin2_some, at_hp, List.getElem?_cons_zero, Option.map_some, ↓reduceIte, reduceCtorEq, Nat.reduceLT, Nat.reduceBEq, Int.reduceLT, Int.reduceBEq, Nat.add_zero, and_self, true_or, Bool.not_true, Bool.not_false, Bool.true_or, Bool.and_self, Bool.cond_self, beq_self_eq_true, Try.vt4, Try.vfield26x0, dec_t, Ret, DV.nums, M.there]
  · have hl : done.length ≤ 16 := (h.2.1 rfl).2.1
    by_cases g1 : 0 ≤ o
    · by_cases g2 : o < done.length
      · have hb := fzB_get done o.toNat (by omega)
        simp (config := { maxSteps := 2000000 }) (disch := first | omega | assumption | (simp only [List.length_cons, List.length_nil, Nat.zero_add, Nat.reduceAdd]; done) | (simp only [IntKind.wrap_i64]; omega) | (simp only [List.length_replicate, List.length_set, List.length_append, List.length_cons, List.length_nil, List.length_take, List.length_drop, List.length_map] <;> omega) | fail) only [vop_move, vcallee_move, vop_assign, vcallee_assign, vop_pick, vcallee_pick, vop_load, vcallee_load, vop_binOp, vcallee_binOp, vop_unOp, vcallee_unOp, vop_fieldAddr, vcallee_fieldAddr, vop_indexAddr, vcallee_indexAddr, vop_builtin, vcallee_builtin, bin2_tmp, bin2_int, vpick_bool, strip_pv, strip_ptr, strip_opt, vstr_true, optV_none, optV_some, pickV_bool, ev_tmp, ev_const, ofConst_int, ofConst_bool, put_some, at_mk, fits_some, ↓look_cons, ↓vlook_t, ↓vlook_f, guard_none, guard_some, vgof_bool, ↓vrun_nil, ↓code_region, ↓code_seq, ↓code_ret, ↓onNormal_normal, ↓onBlock_ret, frz_pv, frzHeap_zero, res_one, vres_tmp, load_ptr, load_ip, vld_one, vldp_one, blk_zero, faddr_ptr, vfap_some, iaddr_sl, vias_some, bin_int, int_lss, int_geq, un_not, len_sl, vlk_sl, bi_len, evG_eq, ↓vrun_cons, ↓run1_some, ↓run2_none, ↓run3_some, ↓runK_eq, ↓code_cond, ↓vtest_bool, ↓vbr_false, ↓vpost_ret, vfin_some, vfin2_some, at_hp, List.map_nil, List.getElem?_cons_zero, List.getElem?_cons_succ, List.length_cons, List.length_nil, List.map_cons, List.map_nil, Option.map_some, Option.bind_some, ↓reduceIte, reduceCtorEq, Nat.reduceLT, Nat.reduceBEq, Int.reduceLT, Int.reduceBEq, Nat.zero_add, Nat.add_zero, true_and, and_self, or_true, false_or, Bool.not_true, Bool.or_true, Bool.false_or, Bool.true_and, Bool.and_self, cond_true, Bool.cond_self, beq_self_eq_true, fz_len, Try.vt4, Try.vt23, Try.velem23, Try.vkind23, Try.vfield26x0, Try.vfield26x1, dec_t, Ret, DV.nums, M.there, g1, g2, hb, hop]
      · have hb : (fz encB done)[o.toNat]? = none := by rw [List.getElem?_eq_none_iff, fz_len]; omega
        simp (config := { maxSteps := 2000000 }) (disch := first | omega | assumption | (simp only [List.length_cons, List.length_nil, Nat.zero_add, Nat.reduceAdd]; done) | (simp only [IntKind.wrap_i64]; omega) | (simp only [List.length_replicate, List.length_set, List.length_append, List.length_cons, List.length_nil, List.length_take, List.length_drop, List.length_map] <;> omega) | fail) only [vop_move, vcallee_move, vop_assign, vcallee_assign, vop_pick, vcallee_pick, vop_load, vcallee_load, vop_binOp, vcallee_binOp, vop_unOp, vcallee_unOp, vop_fieldAddr, vcallee_fieldAddr, vop_indexAddr, vcallee_indexAddr, vop_builtin, vcallee_builtin, bin2_tmp, bin2_int, vpick_bool, strip_pv, strip_ptr, strip_tup, strip_opt, vstr_true, optV_none, optV_some, pickV_bool, ev_tmp, ev_const, ofConst_int, ofConst_bool, put_some, at_mk, fits_some, ↓look_cons, ↓vlook_t, ↓vlook_f, guard_none, guard_some, vgof_bool, ↓vrun_nil, ↓code_region, ↓code_seq, ↓code_ret, ↓onNormal_normal, ↓onBlock_ret, frz_pv, frzHeap_zero, res_one, vres_tmp, load_ptr, vld_one, blk_zero, faddr_ptr, vfap_some, iaddr_sl, bin_int, int_lss, int_geq, un_not, len_sl, vlk_sl, bi_len, evG_eq, ↓vrun_cons, ↓run1_some, ↓run2_none, ↓run3_some, ↓run3_none, ↓runK_eq, ↓code_cond, ↓vtest_bool, ↓vbr_false, ↓vpost_ret, vfin_some, vfin2_some, at_hp, pickV_f, load_tup, vias_none, List.map_nil, List.getElem?_cons_zero, List.getElem?_cons_succ, List.map_cons, List.map_nil, Option.map_some, Option.map_none, Option.bind_some, ↓reduceIte, reduceCtorEq, Nat.reduceLT, Nat.reduceBEq, Int.reduceLT, Int.reduceBEq, Nat.zero_add, Nat.add_zero, decide_false, and_self, false_and, and_false, or_true, or_false, or_self, Bool.not_true, Bool.not_false, Bool.or_true, Bool.or_false, Bool.and_false, Bool.false_and, Bool.or_self, Bool.and_self, b_beq_t, Bool.cond_self, beq_self_eq_true, fz_len, Try.vt4, Try.vt23, Try.velem23, Try.vkind23, Try.vfield26x0, Try.vfield26x1, dec_t, Ret, DV.nums, M.there, g1, g2, hb, hop]
    · have hb := fzB_get done 0 (by have := (h.2.1 rfl).1; dsimp only at this; omega)
      have ho1 : o = -1 := by omega
      subst ho1
      have hv : ∀ x, vias (some (none, 4, 1)) (some [x]) (-1) = none := fun x => by simp [vias]
      simp (config := { maxSteps := 2000000 }) (disch := first | omega | assumption | (simp only [List.length_cons, List.length_nil, Nat.zero_add, Nat.reduceAdd]; done) | (simp only [IntKind.wrap_i64]; omega) | (simp only [List.length_replicate, List.length_set, List.length_append, List.length_cons, List.length_nil, List.length_take, List.length_drop, List.length_map] <;> omega) | fail) only [vop_move, vcallee_move, vop_assign, vcallee_assign, vop_pick, vcallee_pick, vop_load, vcallee_load, vop_binOp, vcallee_binOp, vop_unOp, vcallee_unOp, vop_fieldAddr, vcallee_fieldAddr, vop_indexAddr, vcallee_indexAddr, vop_builtin, vcallee_builtin, bin2_tmp, bin2_int, vpick_bool, strip_pv, strip_ptr, strip_tup, strip_opt, vstr_true, vstr_false, optV_none, optV_some, pickV_bool, ev_tmp, ev_const, ofConst_int, ofConst_bool, put_some, at_mk, fits_some, ↓look_cons, ↓vlook_t, ↓vlook_f, guard_none, guard_some, vgof_bool, ↓vrun_nil, ↓code_region, ↓code_seq, ↓code_ret, ↓onNormal_normal, ↓onBlock_ret, frz_pv, frzHeap_zero, res_one, vres_tmp, load_ptr, vld_one, blk_zero, faddr_ptr, vfap_some, iaddr_sl, bin_int, int_lss, int_geq, un_not, len_sl, vlk_sl, bi_len, evG_eq, ↓vrun_cons, ↓run1_some, ↓run2_none, ↓run3_some, ↓run3_none, ↓runK_eq, ↓code_cond, ↓vtest_bool, ↓vbr_false, ↓vpost_ret, vfin_some, vfin2_some, at_hp, pickV_f, load_tup, List.map_nil, List.getElem?_cons_zero, List.getElem?_cons_succ, List.map_cons, List.map_nil, Option.map_some, Option.map_none, Option.bind_some, ↓reduceIte, reduceCtorEq, Nat.reduceLT, Nat.reduceBEq, Int.reduceToNat, Int.reduceLT, Int.reduceLE, Int.reduceNeg, Int.reduceBEq, Nat.zero_add, Nat.add_zero, decide_false, and_true, and_self, false_and, or_false, or_self, Bool.not_true, Bool.not_false, Bool.or_false, Bool.and_true, Bool.false_and, Bool.or_self, Bool.and_self, b_beq_t, cond_false, Bool.cond_self, beq_self_eq_true, fz_len, Try.vt4, Try.vt23, Try.velem23, Try.vkind23, Try.vfield26x0, Try.vfield26x1, dec_t, Ret, DV.nums, M.there, hb, hop, hv]

theorem awake_v : VCalls Try.prog 5 [] [] (Ret (.bool true)) := by
  refine vcalls_drop (fn := Try.f5) Try.func5 rfl (by kernel_rfl) (by simp [Try.f5]) ?_
  simp (config := { maxSteps := 2000000 }) (disch := first | omega | assumption | (simp only [List.length_cons, List.length_nil, Nat.zero_add, Nat.reduceAdd]; done) | (simp only [IntKind.wrap_i64]; omega) | (simp only [List.length_replicate, List.length_set, List.length_append, List.length_cons, List.length_nil, List.length_take, List.length_drop, List.length_map] <;> omega) | fail) only [vop_assign, vcallee_assign, vcallee_value, vcal_fn, strip_pv, strip_fn, optV_none, ev_const, ev_func, ofConst_int, ofConst_bool, put_some, at_mk, fits_some, guard_none, ↓vrun_nil, ↓code_region, ↓code_seq, ↓onNormal_normal, enum_nil, evG_eq, ↓vrun_cons, ↓run1_some, ↓run2_none, ↓run2_some, ↓run3_some, ↓vcg_none, List.map_nil, List.toList_toArray, List.length_nil, List.map_cons, List.map_nil, List.nil_append, List.append_nil, Nat.reduceLT, Int.reduceLT, true_and, Bool.true_and, Bool.cond_self, dec_t, Try.f5]
  refine vc_pure (new_v 10 (by omega) (by omega)) rfl ?_
  simp (config := { maxSteps := 2000000 }) (disch := first | omega | assumption | (simp only [List.length_cons, List.length_nil, Nat.zero_add, Nat.reduceAdd]; done) | (simp only [IntKind.wrap_i64]; omega) | (simp only [List.length_replicate, List.length_set, List.length_append, List.length_cons, List.length_nil, List.length_take, List.length_drop, List.length_map] <;> omega) | fail) only [vop_move, vcallee_move, vop_assign, vcallee_assign, vop_alloc, vcallee_alloc, vop_store, vcallee_store, vop_extract, vcallee_extract, vcallee_value, vcal_fn, strip_pv, strip_ptr, strip_agg, strip_tup, strip_fn, optV_none, ev_tmp, ev_const, ev_func, ofConst_int, put_some, put_none, at_mk, fits_some, fits_none, ↓look_cons, ↓vlook_t, ↓vlook_f, guard_none, ↓vrun_nil, ↓code_region, ↓code_seq, ↓onNormal_normal, store_ptr, vst_agg, blk_zero, set_zero, alloc_eq, val1_some, allOne_nil, allOne_cons, one_pv, ext_tup, evG_eq, ↓vrun_cons, ↓run1_some, ↓run2_none, ↓run2_some, ↓run3_some, ↓runK_eq, ↓vcg_none, List.map_nil, V.splice, List.getElem?_cons_zero, List.getElem?_cons_succ, List.length_cons, List.length_nil, List.map_cons, List.map_nil, List.nil_append, List.append_nil, List.take_zero, List.drop_succ_cons, List.drop_nil, Option.map_some, ↓reduceIte, Nat.reduceAdd, Nat.reduceLT, Nat.reduceBEq, Nat.reduceDiv, Int.reduceLT, Int.reduceAdd, Int.reduceBEq, Nat.zero_add, true_and, and_self, Bool.true_and, Bool.and_self, cond_true, Bool.cond_self, beq_self_eq_true, Nat.le_refl, Try.vt26, Try.vzero26, dec_t, M.d]
  have hr : VCalls Try.prog 7 [.int .i64 10, .int .i64 2] [] (Ret (.tup [.int .i64 8, .int .i64 9, .bool true])) := range_v 10 2 (by omega) (by omega) (by omega)
  refine vc_pure hr rfl ?_
  simp (config := { maxSteps := 2000000 }) (disch := first | omega | assumption | (simp only [List.length_cons, List.length_nil, Nat.zero_add, Nat.reduceAdd]; done) | (simp only [IntKind.wrap_i64]; omega) | (simp only [List.length_replicate, List.length_set, List.length_append, List.length_cons, List.length_nil, List.length_take, List.length_drop, List.length_map] <;> omega) | fail) only [vop_move, vcallee_move, vop_assign, vcallee_assign, vop_pick, vcallee_pick, vop_load, vcallee_load, vop_binOp, vcallee_binOp, vop_fieldAddr, vcallee_fieldAddr, vop_extract, vcallee_extract, vop_builtin, vcallee_builtin, bin2_int, vpick_bool, strip_pv, strip_ptr, strip_tup, strip_opt, vstr_true, optV_none, optV_some, pickV_bool, ev_tmp, ev_const, ofConst_int, ofConst_bool, put_some, at_mk, fits_some, ↓look_cons, ↓vlook_t, ↓vlook_f, guard_none, guard_some, vgof_bool, ↓vrun_nil, ↓code_region, ↓code_seq, ↓code_ret, ↓onNormal_normal, frz_pv, frzHeap_zero, res_one, vres_tmp, load_ptr, vld_one, blk_zero, faddr_ptr, vfap_some, bin_int, int_eql, ext_tup, len_sl, vlk_sl, bi_len, evG_eq, ↓vrun_cons, ↓run1_some, ↓run2_none, ↓run3_some, ↓runK_eq, ↓vpost_ret, vfin_some, vfin2_some, at_hp, List.map_nil, List.getElem?_cons_zero, List.getElem?_cons_succ, List.map_cons, List.map_nil, Option.map_some, Option.bind_some, ↓reduceIte, reduceCtorEq, Nat.reduceLT, Nat.reduceBEq, Int.reduceLT, Int.reduceBEq, Nat.zero_add, and_self, or_true, Bool.not_true, Bool.or_true, Bool.and_self, cond_true, Bool.cond_self, beq_self_eq_true, fz_len, List.length_replicate, Try.vt23, Try.vkind23, Try.vfield26x1, dec_t, int_beq_t, Ret, DV.nums]
end Go.Proofs.Ytheibaofmffkkaa

namespace Go.Proofs.Ytheibaofmffkkaa
open Go.V Go
set_option maxRecDepth 100000
set_option linter.unusedSimpArgs false

end Go.Proofs.Ytheibaofmffkkaa

namespace Go.Proofs.Ytheibaofmffkkaa
open Go.V Go
set_option maxRecDepth 100000
set_option linter.unusedSimpArgs false

abbrev noK : Nat → Bool := fun _ => false
theorem cloneI_v (l : List Int) (hl : l.length ≤ 1000000) : VCalls Try.prog 19 [.pv (.sl (fz encI l))] [] (NewSl noK [] 1 l.length 3 (cells encI l)) := by
  refine VCalls.newSl ?_
  by_cases hz : l = []
  · subst hz
    refine VCalls.open0 fun ad cap hs => ?_
    refine vcalls_keep (fn := Try.f19) Try.func19 rfl (by kernel_rfl) (by simp [Try.f19]) ?_
    simp (config := { maxSteps := 2000000 }) (disch := first | omega | assumption | (simp only [List.length_cons, List.length_nil, Nat.zero_add, Nat.reduceAdd]; done) | (simp only [IntKind.wrap_i64]; omega) | (simp only [List.length_replicate, List.length_set, List.length_append, List.length_cons, List.length_nil, List.length_take, List.length_drop, List.length_map] <;> omega) | fail) only [vop_move, vcallee_move, vop_assign, vcallee_assign, vop_binOp, vcallee_binOp, bin2_nil, vnilT_sl, vnilc_eql, isNil_lit, strip_pv, optV_none, ev_tmp, ev_const, ofConst_slice, put_some, at_mk, fits_some, ↓look_cons, ↓vlook_t, ↓vlook_f, guard_none, ↓vrun_nil, ↓code_region, ↓code_seq, ↓onNormal_normal, enum_nil, enum_cons, evG_eq, ↓vrun_cons, ↓run1_some, ↓run2_none, ↓run3_some, ↓code_cond, ↓vtest_bool, List.toList_toArray, List.length_nil, Option.map_some, Nat.reduceLT, Nat.reduceBEq, Int.reduceLT, Int.reduceBEq, Nat.zero_add, true_and, Bool.true_and, Bool.cond_self, beq_self_eq_true, dec_t, Try.f19, Try.underlying24]
    refine vbr_split (fun h => ?_) (fun h => ?_)
    · simp (config := { maxSteps := 2000000 }) (disch := first | omega | assumption | (simp only [List.length_cons, List.length_nil, Nat.zero_add, Nat.reduceAdd]; done) | (simp only [IntKind.wrap_i64]; omega) | (simp only [List.length_replicate, List.length_set, List.length_append, List.length_cons, List.length_nil, List.length_take, List.length_drop, List.length_map] <;> omega) | fail) only [vop_assign, vcallee_assign, strip_pv, optV_none, ev_const, ofConst_slice, put_some, at_mk, fits_some, ↓look_cons, ↓vlook_t, guard_none, ↓vrun_nil, ↓code_region, ↓code_seq, ↓code_ret, ↓onNormal_normal, ↓onNormal_ret, res_one, vres_tmp, evG_eq, ↓vrun_cons, ↓run1_some, ↓run2_none, ↓run3_some, ↓keep_ret, vfinK_some, at_hp, Nat.reduceLT, Int.reduceLT, true_and, Bool.true_and, Bool.cond_self, beq_self_eq_true, dec_t]
      exact ⟨by simp, .inl ⟨rfl, rfl, rfl⟩⟩
    · simp (config := { maxSteps := 2000000 }) (disch := first | omega | assumption | (simp only [List.length_cons, List.length_nil, Nat.zero_add, Nat.reduceAdd]; done) | (simp only [IntKind.wrap_i64]; omega) | (simp only [List.length_replicate, List.length_set, List.length_append, List.length_cons, List.length_nil, List.length_take, List.length_drop, List.length_map] <;> omega) | fail) only [vop_move, vcallee_move, vop_assign, vcallee_assign, vop_buildSlice, vcallee_buildSlice, vop_builtin, vcallee_builtin, strip_pv, strip_own, optV_none, ev_tmp, put_some, at_mk, fits_some, ↓look_cons, ↓vlook_t, ↓vlook_f, guard_none, ↓vrun_nil, ↓code_skip, ↓code_region, ↓code_seq, ↓code_ret, ↓onNormal_normal, res_one, vres_tmp, allOne_nil, allOne_cons, one_pv, bi_append, ap2_own, parts_nil, evG_eq, ↓vrun_cons, ↓run1_some, ↓run2_none, ↓run3_some, ↓keep_ret, vfinK_some, at_hp, List.map_nil, vfill, vbuildSlice, V.mk, vsrc, vbase, vappend, V.kill, List.getElem?_cons_zero, List.length_cons, List.length_nil, List.map_cons, List.map_nil, List.cons_append, List.nil_append, List.append_nil, List.take_nil, List.set_cons_zero, Option.map_some, ↓reduceIte, Nat.reduceLT, Nat.reduceLeDiff, Nat.reduceBEq, Int.reduceLT, Int.reduceBEq, Nat.zero_add, Nat.add_zero, Nat.zero_mul, Nat.mul_one, true_and, and_self, Bool.true_and, Bool.and_self, cond_true, Bool.cond_self, beq_self_eq_true, Nat.le_refl, Try.vzero3, Try.bytes3, Try.velem24, Try.notInt24, dec_t]
      exact ⟨by simp, .inr ⟨_, .inl rfl, by simp, rfl, rfl⟩⟩
  · have hp : 0 < l.length := List.length_pos_iff.2 hz
    refine vcalls_keep (fn := Try.f19) Try.func19 rfl (by kernel_rfl) (by simp [Try.f19]) ?_
    have h0 := isNil_fz encI l hp
    have hx : (fz encI l)[0]?.map List.length = some 1 := fz_has encI l hp
    have hb : l.length * 8 ≤ 140737488355328 := by omega
    simp (config := { maxSteps := 2000000 }) (disch := first | omega | assumption | (simp only [List.length_cons, List.length_nil, Nat.zero_add, Nat.reduceAdd]; done) | (simp only [IntKind.wrap_i64]; omega) | (simp only [List.length_replicate, List.length_set, List.length_append, List.length_cons, List.length_nil, List.length_take, List.length_drop, List.length_map] <;> omega) | fail) only [vop_move, vcallee_move, vop_assign, vcallee_assign, vop_buildSlice, vcallee_buildSlice, vop_binOp, vcallee_binOp, vop_builtin, vcallee_builtin, bin2_nil, vnilT_sl, vnilc_eql, strip_pv, strip_own, optV_none, ev_tmp, ev_const, ofConst_slice, put_some, at_mk, fits_some, ↓look_cons, ↓vlook_t, ↓vlook_f, guard_none, ↓vrun_nil, ↓code_skip, ↓code_region, ↓code_seq, ↓code_ret, ↓onNormal_normal, res_one, vres_tmp, allOne_nil, allOne_cons, one_pv, bi_append, ap2_own, parts_nil, enum_nil, enum_cons, evG_eq, ↓vrun_cons, ↓run1_some, ↓run2_none, ↓run3_some, ↓code_cond, ↓vtest_bool, ↓vbr_false, ↓keep_ret, vfinK_some, at_hp, pvs, List.map_nil, vfill, vbuildSlice, V.mk, slOf, vsrc, vbase, vappend, V.kill, List.toList_toArray, List.getElem?_cons_zero, List.length_cons, List.length_nil, List.map_cons, List.map_nil, List.cons_append, List.nil_append, List.take_nil, List.set_cons_zero, Option.map_some, ↓reduceIte, Nat.reduceLT, Nat.reduceLeDiff, Nat.reduceBEq, Int.reduceLT, Int.reduceBEq, Nat.zero_add, Nat.mul_one, true_and, and_self, or_true, Bool.or_true, Bool.true_and, Bool.and_self, cond_true, Bool.cond_self, beq_self_eq_true, Nat.le_refl, fz_len, fz_flat, Try.vzero3, Try.bytes3, Try.velem24, Try.notInt24, dec_t, Try.f19, Try.underlying24, h0, hx, hb]
    exact ⟨by simp, .inr ⟨_, .inl rfl, by simp, rfl, cells_nums _ _ _⟩⟩

def idxP {α : Type} (l : List α) (p : α → Bool) : Int := if l.any p = true then (l.findIdx p : Int) else -1
theorem idxP_at {α : Type} (l : List α) (p : α → Bool) (i : Nat) (h : i < l.length) (hx : p l[i] = true) (no : ∀ x ∈ l.take i, ¬ p x = true) : idxP l p = i := by
  rw [idxP, if_pos (List.any_eq_true.2 ⟨l[i], List.getElem_mem h, hx⟩)]
  congr 1
  rw [List.findIdx_eq h]
  refine ⟨hx, fun j hj => ?_⟩
  have := no l[j] (List.mem_take_iff_getElem.2 ⟨j, by omega, rfl⟩)
  simpa using this

theorem indexFI_v (l : List Int) (hl : l.length ≤ 1000000) (g : FuncId) (caps : List DV) (hc : DV.nums.go (fun _ => false) caps = true) (p : Int → Bool) (hf : ∀ x ∈ l, VCalls Try.prog g (.int .i64 x :: caps) [] (Ret (.bool (p x)))) :
    VCalls Try.prog 27 [.pv (.sl (fz encI l)), .fn (.func g) [] caps] [] (Ret (.int .i64 (idxP l p))) := by
  refine vcalls_drop (fn := Try.f27) Try.func27 rfl (by kernel_rfl) (by simp [Try.f27]) ?_
  simp (config := { maxSteps := 2000000 }) (disch := first | omega | assumption | (simp only [List.length_cons, List.length_nil, Nat.zero_add, Nat.reduceAdd]; done) | (simp only [IntKind.wrap_i64]; omega) | (simp only [List.length_replicate, List.length_set, List.length_append, List.length_cons, List.length_nil, List.length_take, List.length_drop, List.length_map] <;> omega) | fail) only [vop_move, vcallee_move, vop_assign, vcallee_assign, vop_builtin, vcallee_builtin, strip_pv, optV_none, ev_tmp, ev_const, ofConst_int, put_some, at_mk, fits_some, ↓look_cons, ↓vlook_t, ↓vlook_f, guard_none, ↓vrun_nil, ↓code_region, ↓code_seq, ↓code_block, ↓code_loop, ↓onNormal_normal, len_sl, vlk_sl, bi_len, enum_nil, enum_cons, evG_eq, ↓vrun_cons, ↓run1_some, ↓run2_none, ↓run3_some, List.map_nil, List.toList_toArray, List.length_nil, List.map_cons, List.map_nil, Option.map_some, Nat.reduceAdd, Nat.reduceLT, Nat.reduceBEq, Int.reduceLT, Int.reduceNeg, Int.reduceAdd, Int.reduceBEq, Nat.zero_add, true_and, Bool.true_and, Bool.cond_self, beq_self_eq_true, fz_len, Try.vkind24, dec_t, Try.f27]
  refine vloop (fun i : Pass l (fun x => p x = true) => ⟨19, 0, [(8, .int .i64 i.i), (7, .int .i64 l.length), (0, .pv (.sl (fz encI l))), (1, .fn (.func g) [] caps)], []⟩) (fun i => l.length - i.i) (Pass.start l _) (by refine ⟨rfl, rfl, by simp, ?_, ?_, .inl rfl⟩ <;> (repeat' apply And.intro) <;> first | rfl | trivial) ?_
  intro i
  have hi := i.hi
  simp (config := { maxSteps := 2000000 }) (disch := first | omega | assumption | (simp only [List.length_cons, List.length_nil, Nat.zero_add, Nat.reduceAdd]; done) | (simp only [IntKind.wrap_i64]; omega) | (simp only [List.length_replicate, List.length_set, List.length_append, List.length_cons, List.length_nil, List.length_take, List.length_drop, List.length_map] <;> omega) | fail) only [vop_binOp, vcallee_binOp, bin2_tmp, strip_pv, optV_none, ev_tmp, put_some, at_mk, fits_some, ↓look_cons, ↓vlook_t, ↓vlook_f, guard_none, ↓vrun_nil, ↓code_region, ↓code_seq, ↓onNormal_normal, bin_int, int_lss, evG_eq, ↓vrun_cons, ↓run1_some, ↓run2_none, ↓run3_some, ↓code_cond, ↓vtest_bool, Option.map_some, Nat.reduceLT, Nat.reduceBEq, Int.reduceLT, Int.reduceNeg, Int.reduceBEq, true_and, Bool.true_and, Bool.cond_self, beq_self_eq_true, dec_t]
  refine vbr_split (fun hc1 => ?_) (fun hc1 => ?_) <;> simp only [decide_eq_true_eq, decide_eq_false_iff_not, Bool.or_eq_true, Bool.and_eq_true, Bool.or_eq_false_iff, Bool.and_eq_false_imp, Bool.not_eq_true', Bool.not_eq_false', beq_iff_eq, beq_eq_false_iff_ne, bne_iff_ne, bne_eq_false_iff_eq, ne_eq] at hc1
  · have hlt : i.i < l.length := by omega
    have hg := fzI_get l i.i hlt
    have hge : l.getD i.i 0 = l[i.i] := by rw [List.getD_eq_getElem?_getD, List.getElem?_eq_getElem hlt]; rfl
    rw [hge] at hg
    have hm := hf l[i.i] (List.getElem_mem hlt)
    simp (config := { maxSteps := 2000000 }) (disch := first | omega | assumption | (simp only [List.length_cons, List.length_nil, Nat.zero_add, Nat.reduceAdd]; done) | (simp only [IntKind.wrap_i64]; omega) | (simp only [List.length_replicate, List.length_set, List.length_append, List.length_cons, List.length_nil, List.length_take, List.length_drop, List.length_map] <;> omega) | fail) only [vop_move, vcallee_move, vop_assign, vcallee_assign, vop_load, vcallee_load, vop_indexAddr, vcallee_indexAddr, vcallee_value, vcal_fn, strip_pv, strip_ip, strip_fn, optV_none, ev_tmp, put_some, at_mk, fits_some, ↓look_cons, ↓vlook_t, ↓vlook_f, guard_none, ↓vrun_nil, ↓code_skip, ↓code_region, ↓code_seq, ↓code_block, ↓onNormal_normal, load_ip, vldp_one, iaddr_sl, vias_some, evG_eq, ↓vrun_cons, ↓run1_some, ↓run2_none, ↓run2_some, ↓run3_some, ↓vcg_none, List.map_nil, List.getElem?_cons_zero, List.length_cons, List.length_nil, List.map_cons, List.map_nil, List.cons_append, List.nil_append, Option.map_some, Nat.reduceLT, Nat.reduceBEq, Int.reduceLT, Int.reduceNeg, Int.reduceBEq, Int.toNat_natCast, Nat.zero_add, true_and, Bool.true_and, Bool.cond_self, beq_self_eq_true, Try.vt3, Try.velem24, dec_t, hg]
    refine vc_pure hm (by simpa [DV.nums.go, DV.nums] using hc) ?_
    simp (config := { maxSteps := 2000000 }) (disch := first | omega | assumption | (simp only [List.length_cons, List.length_nil, Nat.zero_add, Nat.reduceAdd]; done) | (simp only [IntKind.wrap_i64]; omega) | (simp only [List.length_replicate, List.length_set, List.length_append, List.length_cons, List.length_nil, List.length_take, List.length_drop, List.length_map] <;> omega) | fail) only [ev_tmp, put_some, at_mk, ↓look_cons, ↓vlook_t, ↓vrun_nil, ↓onNormal_normal, ↓runK_eq, ↓code_cond, ↓vtest_bool, Int.reduceNeg, beq_self_eq_true]
    refine vbr_split (fun hx => ?_) (fun hx => ?_)
    · simp (config := { maxSteps := 2000000 }) (disch := first | omega | assumption | (simp only [List.length_cons, List.length_nil, Nat.zero_add, Nat.reduceAdd]; done) | (simp only [IntKind.wrap_i64]; omega) | (simp only [List.length_replicate, List.length_set, List.length_append, List.length_cons, List.length_nil, List.length_take, List.length_drop, List.length_map] <;> omega) | fail) only [vop_move, vcallee_move, vop_assign, vcallee_assign, strip_pv, optV_none, ev_tmp, put_some, at_mk, fits_some, ↓look_cons, ↓vlook_t, ↓vlook_f, guard_none, ↓vrun_nil, ↓code_region, ↓code_seq, ↓code_ret, ↓onNormal_normal, ↓onNormal_ret, ↓onBlock_ret, frz_pv, frzHeap_zero, res_one, vres_tmp, evG_eq, ↓vrun_cons, ↓run1_some, ↓run2_none, ↓run3_some, ↓vpost_ret, vfin_some, vfin2_some, at_hp, Nat.reduceLT, Nat.reduceBEq, Int.reduceLT, Int.reduceNeg, Int.reduceBEq, true_and, Bool.true_and, Bool.cond_self, beq_self_eq_true, dec_t, Ret, DV.nums]
      rw [idxP_at l p i.i hlt hx i.no]
    · simp (config := { maxSteps := 2000000 }) (disch := first | omega | assumption | (simp only [List.length_cons, List.length_nil, Nat.zero_add, Nat.reduceAdd]; done) | (simp only [IntKind.wrap_i64]; omega) | (simp only [List.length_replicate, List.length_set, List.length_append, List.length_cons, List.length_nil, List.length_take, List.length_drop, List.length_map] <;> omega) | fail) only [vop_move, vcallee_move, vop_binOp, vcallee_binOp, bin2_int, strip_pv, optV_none, ev_tmp, ev_const, ofConst_int, put_some, at_mk, fits_some, ↓look_cons, ↓vlook_t, ↓vlook_f, guard_none, ↓vrun_nil, ↓code_skip, ↓code_region, ↓onNormal_normal, ↓onBlock_normal, bin_int, int_add, evG_eq, ↓vrun_cons, ↓run1_some, ↓run2_none, ↓run3_some, Option.map_some, Nat.reduceLT, Nat.reduceBEq, Int.reduceLT, Int.reduceNeg, Int.reduceBEq, true_and, Bool.true_and, Bool.cond_self, beq_self_eq_true, wrap_i64_in, dec_t]
      exact ⟨i.next hlt (by rw [hx]; simp), by show l.length - (i.i + 1) < l.length - i.i; omega, (by refine ⟨rfl, rfl, by simp, ?_, ?_, .inl rfl⟩ <;> (repeat' apply And.intro) <;> first | rfl | trivial)⟩
  · simp (config := { maxSteps := 2000000 }) (disch := first | omega | assumption | (simp only [List.length_cons, List.length_nil, Nat.zero_add, Nat.reduceAdd]; done) | (simp only [IntKind.wrap_i64]; omega) | (simp only [List.length_replicate, List.length_set, List.length_append, List.length_cons, List.length_nil, List.length_take, List.length_drop, List.length_map] <;> omega) | fail) only [vop_assign, vcallee_assign, strip_pv, optV_none, ev_const, ofConst_int, put_some, at_mk, fits_some, ↓look_cons, ↓vlook_t, guard_none, ↓vrun_nil, ↓code_region, ↓code_seq, ↓code_exit, ↓code_ret, ↓onNormal_normal, ↓onNormal_exit, ↓onBlock_exit, frz_pv, frzHeap_zero, res_one, vres_tmp, evG_eq, ↓vrun_cons, ↓run1_some, ↓run2_none, ↓run3_some, ↓vpost_ret, vfin_some, vfin2_some, at_hp, ↓reduceIte, Nat.reduceLT, Int.reduceLT, Int.reduceNeg, true_and, Bool.true_and, Bool.cond_self, beq_self_eq_true, dec_t, dec_f, Ret, DV.nums]
    have := i.all (by omega)
    rw [idxP, if_neg (by simpa using this)]

theorem fin1_v (x v : Int) : VCalls Try.prog 23 [.int .i64 x, .ip [.lit (.int .i64 v)]] [] (Ret (.bool (x == v))) := by
  refine vcalls_drop (fn := Try.f23) Try.func23 rfl (by kernel_rfl) (by simp [Try.f23]) ?_
  simp (config := { maxSteps := 2000000 }) (disch := first | omega | assumption | (simp only [List.length_cons, List.length_nil, Nat.zero_add, Nat.reduceAdd]; done) | (simp only [IntKind.wrap_i64]; omega) | (simp only [List.length_replicate, List.length_set, List.length_append, List.length_cons, List.length_nil, List.length_take, List.length_drop, List.length_map] <;> omega) | fail) only [vop_move, vcallee_move, vop_assign, vcallee_assign, vop_load, vcallee_load, vop_binOp, vcallee_binOp, bin2_tmp, strip_pv, strip_ip, optV_none, ev_tmp, ev_const, ofConst_bool, put_some, at_mk, fits_some, ↓look_cons, ↓vlook_t, ↓vlook_f, guard_none, ↓vrun_nil, ↓code_region, ↓code_seq, ↓code_ret, ↓onNormal_normal, frz_pv, frzHeap_zero, res_one, vres_tmp, load_ip, vldp_one, bin_int, int_eql, enum_nil, enum_cons, evG_eq, ↓vrun_cons, ↓run1_some, ↓run2_none, ↓run3_some, ↓vpost_ret, vfin_some, vfin2_some, at_hp, List.toList_toArray, List.getElem?_cons_zero, List.length_nil, Option.map_some, Nat.reduceAdd, Nat.reduceLT, Nat.reduceBEq, Int.reduceLT, Int.reduceAdd, Int.reduceBEq, Nat.zero_add, and_self, Bool.and_self, Bool.cond_self, beq_self_eq_true, Try.vt3, dec_t, Ret, DV.nums, Try.f23]
end Go.Proofs.Ytheibaofmffkkaa

namespace Go.Proofs.Ytheibaofmffkkaa
open Go.V Go
set_option maxRecDepth 100000
set_option linter.unusedSimpArgs false

/-- What is left when those with p are taken out. -/
def keepL {α : Type} (l : List α) (p : α → Bool) : List α := l.filter fun x => !p x
/-- Those that are left of the first j stand in front. -/
structure DF {α : Type} (l : List α) (p : α → Bool) where
  j : Nat
  hj : j ≤ l.length
  cur : List α
  hl : cur.length = l.length
  h1 : cur.take (keepL (l.take j) p).length = keepL (l.take j) p
  h2 : cur.drop j = l.drop j
  h3 : (keepL (l.take j) p).length < j
def DF.i {α : Type} {l : List α} {p : α → Bool} (s : DF l p) : Nat := (keepL (l.take s.j) p).length
theorem keepL_take_succ {α : Type} (l : List α) (p : α → Bool) (j : Nat) (h : j < l.length) : keepL (l.take (j + 1)) p = keepL (l.take j) p ++ (if p l[j] = true then [] else [l[j]]) := by
  rw [List.take_succ_eq_append_getElem h, keepL, List.filter_append]
  cases hp : p l[j] <;> simp [keepL, hp]
theorem keepL_none {α : Type} (l : List α) (p : α → Bool) (h : ∀ x ∈ l, ¬ p x = true) : keepL l p = l := by
  rw [keepL, List.filter_eq_self]; intro x hx; simpa using h x hx
def DF.start {α : Type} (l : List α) (p : α → Bool) (i : Nat) (h : i < l.length) (hp : p l[i] = true) (no : ∀ x ∈ l.take i, ¬ p x = true) : DF l p :=
  have e : keepL (l.take (i + 1)) p = l.take i := by rw [keepL_take_succ l p i h, if_pos hp, List.append_nil, keepL_none _ p no]
  have el : (l.take i).length = i := by rw [List.length_take]; omega
  ⟨i + 1, h, l, rfl, by rw [e, el], rfl, by rw [e, el]; omega⟩
theorem DF.start_i {α : Type} (l : List α) (p : α → Bool) (i : Nat) (h : i < l.length) (hp : p l[i] = true) (no : ∀ x ∈ l.take i, ¬ p x = true) : (DF.start l p i h hp no).i = i := by
  show (keepL (l.take (i + 1)) p).length = i
  rw [keepL_take_succ l p i h, if_pos hp, List.append_nil, keepL_none _ p no, List.length_take]; omega
theorem DF.get {α : Type} {l : List α} {p : α → Bool} (s : DF l p) (h : s.j < l.length) (d : α) : s.cur.getD s.j d = l[s.j] := by
  have := congrArg (fun x => x[0]?) s.h2
  simp only [List.getElem?_drop, Nat.add_zero] at this
  rw [List.getD_eq_getElem?_getD, this, List.getElem?_eq_getElem h]; rfl
/-- One is taken out. -/
def DF.out {α : Type} {l : List α} {p : α → Bool} (s : DF l p) (h : s.j < l.length) (hp : p l[s.j] = true) : DF l p :=
  have e : keepL (l.take (s.j + 1)) p = keepL (l.take s.j) p := by rw [keepL_take_succ l p s.j h, if_pos hp, List.append_nil]
  ⟨s.j + 1, h, s.cur, s.hl, by rw [e]; exact s.h1, by
    have := congrArg (List.drop 1) s.h2
    rwa [List.drop_drop, List.drop_drop] at this, by rw [e]; have := s.h3; omega⟩
theorem DF.out_i {α : Type} {l : List α} {p : α → Bool} (s : DF l p) (h : s.j < l.length) (hp : p l[s.j] = true) : (s.out h hp).i = s.i := by
  show (keepL (l.take (s.j + 1)) p).length = _
  rw [keepL_take_succ l p s.j h, if_pos hp, List.append_nil]; rfl
/-- One stays. -/
def DF.stay {α : Type} {l : List α} {p : α → Bool} (s : DF l p) (h : s.j < l.length) (hp : ¬ p l[s.j] = true) : DF l p :=
  have e : keepL (l.take (s.j + 1)) p = keepL (l.take s.j) p ++ [l[s.j]] := by rw [keepL_take_succ l p s.j h, if_neg hp]
  have hi : s.i < s.j := s.h3
  have hil : s.i < s.cur.length := by rw [s.hl]; have := s.hj; omega
  ⟨s.j + 1, h, s.cur.set s.i l[s.j], by rw [List.length_set]; exact s.hl, by
    rw [e, List.length_append, List.length_singleton]
    show (s.cur.set s.i l[s.j]).take (s.i + 1) = _
    rw [List.take_succ_eq_append_getElem (by rw [List.length_set]; exact hil), List.getElem_set_self, List.take_set_of_le (Nat.le_refl _)]
    congr 1
    exact s.h1, by
    rw [List.drop_set_of_lt (by omega)]
    have := congrArg (List.drop 1) s.h2
    rwa [List.drop_drop, List.drop_drop] at this, by
    rw [e, List.length_append, List.length_singleton]
    have : (keepL (l.take s.j) p).length = s.i := rfl
    omega⟩
theorem DF.stay_i {α : Type} {l : List α} {p : α → Bool} (s : DF l p) (h : s.j < l.length) (hp : ¬ p l[s.j] = true) : (s.stay h hp).i = s.i + 1 := by
  show (keepL (l.take (s.j + 1)) p).length = _
  rw [keepL_take_succ l p s.j h, if_neg hp, List.length_append]; rfl

/-- What a list that was thinned out leaves behind it. -/
def thin {α : Type} (l : List α) (p : α → Bool) (z : α) : List α := keepL l p ++ List.replicate (l.length - (keepL l p).length) z
theorem splice_I (l m : List Int) (i : Nat) : splice (cells encI l) i (cells encI m) = cells encI (l.take i ++ m ++ l.drop (i + m.length)) := by
  have := splice_cells encI l m i
  rwa [show encI.sz = 1 from rfl, Nat.mul_one] at this
set_option maxHeartbeats 1000000 in
theorem deleteFI_v (l : List Int) (hl : l.length ≤ 1000000) (g : FuncId) (T1 : TypeId) (c0 : List PV) (p : Int → Bool) (hf : ∀ x ∈ l, VCalls Try.prog g [.int .i64 x, .ip c0] [] (Ret (.bool (p x)))) :
    VCalls Try.prog 22 [.own 0 1 0 l.length, .fn (.func g) [] [.ptr 1 0]] [⟨3, true, cells encI l⟩, ⟨T1, true, c0.map .pv⟩]
      (NewSl (fun i => i == 1) [⟨3, true, cells encI l⟩, ⟨T1, true, c0.map .pv⟩] 1 (keepL l p).length 3 (cells encI (thin l p 0))) := by
  refine VCalls.newSl ?_
  have fin : ∀ (r : DV) (h' : Heap), r = .own 0 1 0 (keepL l p).length → h' = [⟨3, true, cells encI (thin l p 0)⟩, ⟨T1, true, c0.map .pv⟩] → SomeSl (fun i => i == 1) [⟨3, true, cells encI l⟩, ⟨T1, true, c0.map .pv⟩] 1 (keepL l p).length 3 (cells encI (thin l p 0)) r h' := by
    rintro r h' rfl rfl
    refine ⟨fun i B hi hB => ?_, .inr ⟨0, .inl rfl, by simp, rfl, cells_nums _ _ _⟩⟩
    obtain rfl : i = 1 := by simpa using hi
    simp at hB
    subst hB
    exact ⟨rfl, pvs_nums _ _⟩
  refine vcalls_keep (fn := Try.f22) Try.func22 rfl (by kernel_rfl) (by simp [Try.f22]) ?_
  simp (config := { maxSteps := 2000000 }) (disch := first | omega | assumption | (simp only [List.length_cons, List.length_nil, Nat.zero_add, Nat.reduceAdd]; done) | (simp only [IntKind.wrap_i64]; omega) | (simp only [List.length_replicate, List.length_set, List.length_append, List.length_cons, List.length_nil, List.length_take, List.length_drop, List.length_map] <;> omega) | fail) only [vop_move, vcallee_move, vop_assign, vcallee_assign, vcallee_value, vcal_fn, strip_pv, strip_own, strip_fn, optV_none, ev_tmp, ev_const, ev_func, ofConst_slice, put_some, at_mk, fits_some, ↓look_cons, ↓vlook_t, ↓vlook_f, guard_none, ↓vrun_nil, ↓code_region, ↓code_seq, ↓onNormal_normal, enum_nil, enum_cons, evG_eq, ↓vrun_cons, ↓run1_some, ↓run2_none, ↓run2_some, ↓run3_some, ↓vcg_none, List.map_nil, List.toList_toArray, List.length_cons, List.length_nil, List.map_cons, List.map_nil, List.nil_append, List.append_nil, Nat.reduceAdd, Nat.reduceLT, Nat.reduceBEq, Int.reduceLT, Int.reduceNeg, Int.reduceAdd, Int.reduceBEq, Nat.zero_add, true_and, Bool.true_and, Bool.cond_self, beq_self_eq_true, dec_t, Try.f22]
  refine vc_lendA (indexFI_v l hl g [.ip c0] rfl p hf) (allSome2 (frzA_own encI l rfl) (frzA_fn1 rfl)) rfl ?_
  simp (config := { maxSteps := 2000000 }) (disch := first | omega | assumption | (simp only [List.length_cons, List.length_nil, Nat.zero_add, Nat.reduceAdd]; done) | (simp only [IntKind.wrap_i64]; omega) | (simp only [List.length_replicate, List.length_set, List.length_append, List.length_cons, List.length_nil, List.length_take, List.length_drop, List.length_map] <;> omega) | fail) only [vop_move, vcallee_move, vop_assign, vcallee_assign, vop_binOp, vcallee_binOp, bin2_int, strip_pv, optV_none, ev_tmp, ev_const, ofConst_int, put_some, at_mk, fits_some, ↓look_cons, ↓vlook_t, guard_none, ↓vrun_nil, ↓code_region, ↓code_seq, ↓onNormal_normal, bin_int, int_eql, evG_eq, ↓vrun_cons, ↓run1_some, ↓run2_none, ↓run3_some, ↓runK_eq, ↓code_cond, ↓vtest_bool, Option.map_some, Nat.reduceLT, Int.reduceLT, Int.reduceNeg, true_and, Bool.true_and, Bool.cond_self, beq_self_eq_true, dec_t]
  refine vbr_split (fun hx => ?_) (fun hx => ?_)
  · simp (config := { maxSteps := 2000000 }) (disch := first | omega | assumption | (simp only [List.length_cons, List.length_nil, Nat.zero_add, Nat.reduceAdd]; done) | (simp only [IntKind.wrap_i64]; omega) | (simp only [List.length_replicate, List.length_set, List.length_append, List.length_cons, List.length_nil, List.length_take, List.length_drop, List.length_map] <;> omega) | fail) only [vop_move, vcallee_move, vop_assign, vcallee_assign, strip_own, optV_none, ev_tmp, put_some, at_mk, fits_some, ↓look_cons, ↓vlook_t, ↓vlook_f, guard_none, ↓vrun_nil, ↓code_region, ↓code_seq, ↓code_ret, ↓onNormal_normal, ↓onNormal_ret, res_one, vres_tmp, evG_eq, ↓vrun_cons, ↓run1_some, ↓run2_none, ↓run3_some, ↓keep_ret, vfinK_some, at_hp, Nat.reduceLT, Nat.reduceBEq, Int.reduceLT, Int.reduceNeg, Int.reduceBEq, true_and, Bool.true_and, Bool.cond_self, beq_self_eq_true, dec_t]
    have hno : ∀ x ∈ l, ¬ p x = true := by
      intro x hm hp
      rw [idxP, if_pos (List.any_eq_true.2 ⟨x, hm, hp⟩)] at hx
      simp at hx
    have hk := keepL_none l p hno
    refine fin _ _ (by rw [hk]) (by rw [thin, hk, Nat.sub_self]; simp)
  · have hany : l.any p = true := by
      cases ha : l.any p with
      | true => rfl
      | false => rw [idxP, ha] at hx; simp at hx
    obtain ⟨i, hi, hpi, hno, hidx⟩ : ∃ i, ∃ h : i < l.length, p l[i] = true ∧ (∀ x ∈ l.take i, ¬ p x = true) ∧ idxP l p = i := by
      obtain ⟨x, hm, hp⟩ := List.any_eq_true.1 hany
      have hlt := List.findIdx_lt_length_of_exists ⟨x, hm, hp⟩
      refine ⟨l.findIdx p, hlt, List.findIdx_getElem (w := hlt), fun y hy => ?_, by rw [idxP, if_pos hany]⟩
      obtain ⟨k, hk, rfl⟩ := List.mem_take_iff_getElem.1 hy
      have := List.not_of_lt_findIdx (p := p) (xs := l) (i := k) (by omega)
      simpa using this
    rw [hidx]
    simp (config := { maxSteps := 2000000 }) (disch := first | omega | assumption | (simp only [List.length_cons, List.length_nil, Nat.zero_add, Nat.reduceAdd]; done) | (simp only [IntKind.wrap_i64]; omega) | (simp only [List.length_replicate, List.length_set, List.length_append, List.length_cons, List.length_nil, List.length_take, List.length_drop, List.length_map] <;> omega) | fail) only [vop_move, vcallee_move, vop_assign, vcallee_assign, vop_binOp, vcallee_binOp, bin2_int, strip_pv, optV_none, ev_tmp, ev_const, ofConst_int, put_some, at_mk, fits_some, ↓look_cons, ↓vlook_t, ↓vlook_f, guard_none, ↓vrun_nil, ↓code_skip, ↓code_region, ↓code_seq, ↓code_block, ↓code_loop, ↓onNormal_normal, bin_int, int_add, evG_eq, ↓vrun_cons, ↓run1_some, ↓run2_none, ↓run3_some, Option.map_some, Nat.reduceLT, Nat.reduceBEq, Int.reduceLT, Int.reduceNeg, Int.reduceBEq, true_and, Bool.true_and, Bool.cond_self, beq_self_eq_true, wrap_i64_in, dec_t, int_beq_f]
    refine vloop (fun s : DF l p => ⟨42, 2, [(6, .int .i64 s.j), (5, .int .i64 s.i), (0, .own 0 1 0 l.length), (1, .fn (.func g) [] [.ptr 1 0])], [⟨3, true, cells encI s.cur⟩, ⟨T1, true, c0.map .pv⟩]⟩) (fun s => l.length - s.j) (DF.start l p i hi hpi hno) ?_ ?_
    · have e0 := DF.start_i l p i hi hpi hno
      have ej : (DF.start l p i hi hpi hno).j = i + 1 := rfl
      have ec : (DF.start l p i hi hpi hno).cur = l := rfl
      rw [e0, ej, ec]
      exact (by refine ⟨rfl, rfl, by simp, ?_, ?_, .inr ⟨?_, ?_⟩⟩ <;> (repeat' apply And.intro) <;> first | rfl | trivial | (intro _; first | rfl | apply cells_refs | apply pvs_refs))
    intro s
    have hsj := s.hj
    simp (config := { maxSteps := 2000000 }) (disch := first | omega | assumption | (simp only [List.length_cons, List.length_nil, Nat.zero_add, Nat.reduceAdd]; done) | (simp only [IntKind.wrap_i64]; omega) | (simp only [List.length_replicate, List.length_set, List.length_append, List.length_cons, List.length_nil, List.length_take, List.length_drop, List.length_map] <;> omega) | fail) only [vop_move, vcallee_move, vop_binOp, vcallee_binOp, vop_builtin, vcallee_builtin, bin2_tmp, strip_pv, strip_own, optV_none, ev_tmp, put_some, at_mk, fits_some, ↓look_cons, ↓vlook_t, ↓vlook_f, guard_none, ↓vrun_nil, ↓code_region, ↓code_seq, ↓onNormal_normal, bin_int, int_lss, vlk_sl, len_own, bi_len, evG_eq, ↓vrun_cons, ↓run1_some, ↓run2_none, ↓run3_some, ↓code_cond, ↓vtest_bool, List.map_nil, List.map_cons, List.map_nil, Option.map_some, Nat.reduceLT, Nat.reduceBEq, Int.reduceLT, Int.reduceBEq, true_and, Bool.true_and, Bool.cond_self, beq_self_eq_true, Try.vkind24, dec_t]
    refine vbr_split (fun hc1 => ?_) (fun hc1 => ?_) <;> simp only [decide_eq_true_eq, decide_eq_false_iff_not, Bool.or_eq_true, Bool.and_eq_true, Bool.or_eq_false_iff, Bool.and_eq_false_imp, Bool.not_eq_true', Bool.not_eq_false', beq_iff_eq, beq_eq_false_iff_ne, bne_iff_ne, bne_eq_false_iff_eq, ne_eq] at hc1
    · have hlt : s.j < l.length := by omega
      have hcl := s.hl
      have hg := cellsI_get s.cur s.j (by omega)
      rw [s.get hlt] at hg
      have hm := hf l[s.j] (List.getElem_mem hlt)
      simp (config := { maxSteps := 2000000 }) (disch := first | omega | assumption | (simp only [List.length_cons, List.length_nil, Nat.zero_add, Nat.reduceAdd]; done) | (simp only [IntKind.wrap_i64]; omega) | (simp only [List.length_replicate, List.length_set, List.length_append, List.length_cons, List.length_nil, List.length_take, List.length_drop, List.length_map] <;> omega) | fail) only [vop_move, vcallee_move, vop_assign, vcallee_assign, vop_load, vcallee_load, vop_indexAddr, vcallee_indexAddr, vcallee_value, vcal_fn, strip_pv, strip_ptr, strip_own, strip_fn, optV_none, ev_tmp, put_some, at_mk, fits_some, ↓look_cons, ↓vlook_t, ↓vlook_f, guard_none, ↓vrun_nil, ↓code_skip, ↓code_region, ↓code_seq, ↓code_block, ↓onNormal_normal, load_ptr, vld_one, blk_zero, iaddr_own, viao_some, evG_eq, ↓vrun_cons, ↓run1_some, ↓run2_none, ↓run2_some, ↓run3_some, ↓vcg_none, List.map_nil, List.map_cons, List.map_nil, List.cons_append, List.nil_append, Option.map_some, Nat.reduceLT, Nat.reduceBEq, Int.reduceLT, Int.reduceBEq, Int.toNat_natCast, Nat.zero_add, Nat.mul_one, true_and, Bool.true_and, Bool.cond_self, beq_self_eq_true, Try.vt3, Try.velem24, dec_t, hg]
      refine vc_lendA hm (allSome2 rfl (frzA_ptr rfl)) rfl ?_
      simp (config := { maxSteps := 2000000 }) (disch := first | omega | assumption | (simp only [List.length_cons, List.length_nil, Nat.zero_add, Nat.reduceAdd]; done) | (simp only [IntKind.wrap_i64]; omega) | (simp only [List.length_replicate, List.length_set, List.length_append, List.length_cons, List.length_nil, List.length_take, List.length_drop, List.length_map] <;> omega) | fail) only [vop_unOp, vcallee_unOp, strip_pv, optV_none, ev_tmp, put_some, at_mk, fits_some, ↓look_cons, ↓vlook_t, guard_none, ↓vrun_nil, ↓onNormal_normal, un_not, evG_eq, ↓vrun_cons, ↓run1_some, ↓run2_none, ↓run3_some, ↓runK_eq, ↓code_cond, ↓vtest_bool, Option.map_some, Nat.reduceLT, Int.reduceLT, true_and, Bool.true_and, Bool.cond_self, beq_self_eq_true, dec_t]
      refine vbr_split (fun hp => ?_) (fun hp => ?_)
      · have hp' : ¬ p l[s.j] = true := by simpa using hp
        have hil : s.i < l.length := by have := s.h3; show (keepL (l.take s.j) p).length < _; omega
        simp (config := { maxSteps := 2000000 }) (disch := first | omega | assumption | (simp only [List.length_cons, List.length_nil, Nat.zero_add, Nat.reduceAdd]; done) | (simp only [IntKind.wrap_i64]; omega) | (simp only [List.length_replicate, List.length_set, List.length_append, List.length_cons, List.length_nil, List.length_take, List.length_drop, List.length_map] <;> omega) | fail) only [vop_move, vcallee_move, vop_assign, vcallee_assign, vop_store, vcallee_store, vop_binOp, vcallee_binOp, vop_indexAddr, vcallee_indexAddr, bin2_int, strip_pv, strip_ptr, strip_own, optV_none, ev_tmp, ev_const, ofConst_int, put_some, put_none, at_mk, fits_some, fits_none, ↓look_cons, ↓vlook_t, ↓vlook_f, guard_none, ↓vrun_nil, ↓code_region, ↓code_seq, ↓onNormal_normal, ↓onBlock_normal, store_ptr, vst_one, blk_zero, set_zero, one_pv, iaddr_own, viao_some, bin_int, int_add, evG_eq, ↓vrun_cons, ↓run1_some, ↓run2_none, ↓run3_some, Option.map_some, ↓reduceIte, Nat.reduceLT, Nat.reduceBEq, Int.reduceLT, Int.reduceBEq, Int.toNat_natCast, Nat.zero_add, Nat.mul_one, true_and, and_self, Bool.true_and, Bool.and_self, cond_true, Bool.cond_self, beq_self_eq_true, cellsI_len, cellsI_set, Try.vt3, Try.velem24, wrap_i64_in, dec_t, cellsI_set, cellsI_len, hcl, hil]
        refine ⟨s.stay hlt hp', by show l.length - (s.j + 1) < l.length - s.j; omega, ?_⟩
        rw [s.stay_i hlt hp']
        exact (by refine ⟨rfl, rfl, by simp, ?_, ?_, .inr ⟨?_, ?_⟩⟩ <;> (repeat' apply And.intro) <;> first | rfl | trivial | (intro _; first | rfl | apply cells_refs | apply pvs_refs))
      · have hp' : p l[s.j] = true := by simpa using hp
        simp (config := { maxSteps := 2000000 }) (disch := first | omega | assumption | (simp only [List.length_cons, List.length_nil, Nat.zero_add, Nat.reduceAdd]; done) | (simp only [IntKind.wrap_i64]; omega) | (simp only [List.length_replicate, List.length_set, List.length_append, List.length_cons, List.length_nil, List.length_take, List.length_drop, List.length_map] <;> omega) | fail) only [vop_move, vcallee_move, vop_assign, vcallee_assign, vop_binOp, vcallee_binOp, bin2_int, strip_pv, optV_none, ev_tmp, ev_const, ofConst_int, put_some, at_mk, fits_some, ↓look_cons, ↓vlook_t, ↓vlook_f, guard_none, ↓vrun_nil, ↓code_skip, ↓code_region, ↓onNormal_normal, ↓onBlock_normal, bin_int, int_add, evG_eq, ↓vrun_cons, ↓run1_some, ↓run2_none, ↓run3_some, Option.map_some, Nat.reduceLT, Nat.reduceBEq, Int.reduceLT, Int.reduceBEq, true_and, Bool.true_and, Bool.cond_self, beq_self_eq_true, wrap_i64_in, dec_t]
        refine ⟨s.out hlt hp', by show l.length - (s.j + 1) < l.length - s.j; omega, ?_⟩
        rw [s.out_i hlt hp']
        exact (by refine ⟨rfl, rfl, by simp, ?_, ?_, .inr ⟨?_, ?_⟩⟩ <;> (repeat' apply And.intro) <;> first | rfl | trivial | (intro _; first | rfl | apply cells_refs | apply pvs_refs))
    · have hjl : s.j = l.length := by omega
      have hil : s.i < l.length := by have := s.h3; show (keepL (l.take s.j) p).length < _; omega
      have hcl := s.hl
      have hfit : s.i + (l.length - s.i) ≤ l.length := by omega
      simp (config := { maxSteps := 2000000 }) (disch := first | omega | assumption | (simp only [List.length_cons, List.length_nil, Nat.zero_add, Nat.reduceAdd]; done) | (simp only [IntKind.wrap_i64]; omega) | (simp only [List.length_replicate, List.length_set, List.length_append, List.length_cons, List.length_nil, List.length_take, List.length_drop, List.length_map] <;> omega) | fail) only [vop_move, vcallee_move, vop_assign, vcallee_assign, vop_slice, vcallee_slice, vop_builtin, vcallee_builtin, vcl2_some, vcl3_some, bi_clear, cl2_own, strip_pv, strip_own, optV_none, ev_tmp, put_some, put_none, at_mk, fits_some, fits_none, ↓look_cons, ↓vlook_t, ↓vlook_f, guard_none, ↓vrun_nil, ↓code_region, ↓code_seq, ↓code_exit, ↓code_ret, ↓onNormal_normal, ↓onNormal_exit, ↓onBlock_exit, res_one, vres_tmp, blk_zero, set_zero, allOne_nil, allOne_cons, one_pv, slice_own_hi, slice_own_lo, vslo0_some, vslo_some, evG_eq, ↓vrun_cons, ↓run1_some, ↓run2_none, ↓run3_some, ↓keep_ret, vfinK_some, at_hp, slice_own, List.map_nil, V.splice, List.length_cons, List.length_nil, List.map_cons, List.map_nil, Option.map_some, Option.map_none, ↓reduceIte, Nat.reduceLT, Nat.reduceBEq, Int.reduceLT, Int.reduceBEq, Int.toNat_natCast, Nat.zero_add, Nat.mul_one, true_and, and_self, Bool.true_and, Bool.and_self, cond_true, Bool.cond_self, beq_self_eq_true, cellsI_len, mkI, List.length_replicate, Try.vzero3, Try.velem24, dec_t, dec_f, cellsI_len, hcl, hfit]
      have ei : s.i = (keepL l p).length := by show (keepL (l.take s.j) p).length = _; rw [hjl, List.take_length]
      have et : s.cur.take s.i = keepL l p := by have := s.h1; rw [hjl, List.take_length] at this; rw [ei]; exact this
      have hI := splice_I s.cur (List.replicate (l.length - s.i) 0) s.i
      unfold splice at hI
      rw [cellsI_len, List.length_replicate] at hI
      refine fin _ _ (by rw [ei]) ?_
      rw [hI, et, ei, List.drop_of_length_le (by omega), List.append_nil]
      rfl
end Go.Proofs.Ytheibaofmffkkaa

namespace Go.Proofs.Ytheibaofmffkkaa
open Go.V Go
set_option maxRecDepth 100000
set_option linter.unusedSimpArgs false

theorem cloneB_v (l : List Bool) (hl : l.length ≤ 1000000) : VCalls Try.prog 21 [.pv (.sl (fz encB l))] [] (NewSl noK [] 1 l.length 4 (cells encB l)) := by
  refine VCalls.newSl ?_
  by_cases hz : l = []
  · subst hz
    refine VCalls.open0 fun ad cap hs => ?_
    refine vcalls_keep (fn := Try.f21) Try.func21 rfl (by kernel_rfl) (by simp [Try.f21]) ?_
    simp (config := { maxSteps := 2000000 }) (disch := first | omega | assumption | (simp only [List.length_cons, List.length_nil, Nat.zero_add, Nat.reduceAdd]; done) | (simp only [IntKind.wrap_i64]; omega) | (simp only [List.length_replicate, List.length_set, List.length_append, List.length_cons, List.length_nil, List.length_take, List.length_drop, List.length_map] <;> omega) | fail) only [vop_move, vcallee_move, vop_assign, vcallee_assign, vop_binOp, vcallee_binOp, bin2_nil, vnilT_sl, vnilc_eql, isNil_lit, strip_pv, optV_none, ev_tmp, ev_const, ofConst_slice, put_some, at_mk, fits_some, ↓look_cons, ↓vlook_t, ↓vlook_f, guard_none, ↓vrun_nil, ↓code_region, ↓code_seq, ↓onNormal_normal, enum_nil, enum_cons, evG_eq, ↓vrun_cons, ↓run1_some, ↓run2_none, ↓run3_some, ↓code_cond, ↓vtest_bool, List.toList_toArray, List.length_nil, Option.map_some, Nat.reduceLT, Nat.reduceBEq, Int.reduceLT, Int.reduceBEq, Nat.zero_add, true_and, Bool.true_and, Bool.cond_self, beq_self_eq_true, dec_t, Try.f21, Try.underlying23]
    refine vbr_split (fun h => ?_) (fun h => ?_)
    · simp (config := { maxSteps := 2000000 }) (disch := first | omega | assumption | (simp only [List.length_cons, List.length_nil, Nat.zero_add, Nat.reduceAdd]; done) | (simp only [IntKind.wrap_i64]; omega) | (simp only [List.length_replicate, List.length_set, List.length_append, List.length_cons, List.length_nil, List.length_take, List.length_drop, List.length_map] <;> omega) | fail) only [vop_assign, vcallee_assign, strip_pv, optV_none, ev_const, ofConst_slice, put_some, at_mk, fits_some, ↓look_cons, ↓vlook_t, guard_none, ↓vrun_nil, ↓code_region, ↓code_seq, ↓code_ret, ↓onNormal_normal, ↓onNormal_ret, res_one, vres_tmp, evG_eq, ↓vrun_cons, ↓run1_some, ↓run2_none, ↓run3_some, ↓keep_ret, vfinK_some, at_hp, Nat.reduceLT, Int.reduceLT, true_and, Bool.true_and, Bool.cond_self, beq_self_eq_true, dec_t]
      exact ⟨by simp, .inl ⟨rfl, rfl, rfl⟩⟩
    · simp (config := { maxSteps := 2000000 }) (disch := first | omega | assumption | (simp only [List.length_cons, List.length_nil, Nat.zero_add, Nat.reduceAdd]; done) | (simp only [IntKind.wrap_i64]; omega) | (simp only [List.length_replicate, List.length_set, List.length_append, List.length_cons, List.length_nil, List.length_take, List.length_drop, List.length_map] <;> omega) | fail) only [vop_move, vcallee_move, vop_assign, vcallee_assign, vop_buildSlice, vcallee_buildSlice, vop_builtin, vcallee_builtin, strip_pv, strip_own, optV_none, ev_tmp, put_some, at_mk, fits_some, ↓look_cons, ↓vlook_t, ↓vlook_f, guard_none, ↓vrun_nil, ↓code_skip, ↓code_region, ↓code_seq, ↓code_ret, ↓onNormal_normal, res_one, vres_tmp, allOne_nil, allOne_cons, one_pv, bi_append, ap2_own, parts_nil, evG_eq, ↓vrun_cons, ↓run1_some, ↓run2_none, ↓run3_some, ↓keep_ret, vfinK_some, at_hp, List.map_nil, vfill, vbuildSlice, V.mk, vsrc, vbase, vappend, V.kill, List.getElem?_cons_zero, List.length_cons, List.length_nil, List.map_cons, List.map_nil, List.cons_append, List.nil_append, List.append_nil, List.take_nil, List.set_cons_zero, Option.map_some, ↓reduceIte, Nat.reduceLT, Nat.reduceLeDiff, Nat.reduceBEq, Int.reduceLT, Int.reduceBEq, Nat.zero_add, Nat.add_zero, Nat.mul_one, true_and, and_self, Bool.true_and, Bool.and_self, cond_true, Bool.cond_self, beq_self_eq_true, Nat.le_refl, Try.vzero4, Try.bytes4, Try.velem23, Try.notInt23, dec_t]
      exact ⟨by simp, .inr ⟨_, .inl rfl, by simp, rfl, rfl⟩⟩
  · have hp : 0 < l.length := List.length_pos_iff.2 hz
    refine vcalls_keep (fn := Try.f21) Try.func21 rfl (by kernel_rfl) (by simp [Try.f21]) ?_
    have h0 := isNil_fz encB l hp
    have hx : (fz encB l)[0]?.map List.length = some 1 := fz_has encB l hp
    have hb : l.length ≤ 140737488355328 := by omega
    simp (config := { maxSteps := 2000000 }) (disch := first | omega | assumption | (simp only [List.length_cons, List.length_nil, Nat.zero_add, Nat.reduceAdd]; done) | (simp only [IntKind.wrap_i64]; omega) | (simp only [List.length_replicate, List.length_set, List.length_append, List.length_cons, List.length_nil, List.length_take, List.length_drop, List.length_map] <;> omega) | fail) only [vop_move, vcallee_move, vop_assign, vcallee_assign, vop_buildSlice, vcallee_buildSlice, vop_binOp, vcallee_binOp, vop_builtin, vcallee_builtin, bin2_nil, vnilT_sl, vnilc_eql, strip_pv, strip_own, optV_none, ev_tmp, ev_const, ofConst_slice, put_some, at_mk, fits_some, ↓look_cons, ↓vlook_t, ↓vlook_f, guard_none, ↓vrun_nil, ↓code_skip, ↓code_region, ↓code_seq, ↓code_ret, ↓onNormal_normal, res_one, vres_tmp, allOne_nil, allOne_cons, one_pv, bi_append, ap2_own, parts_nil, enum_nil, enum_cons, evG_eq, ↓vrun_cons, ↓run1_some, ↓run2_none, ↓run3_some, ↓code_cond, ↓vtest_bool, ↓vbr_false, ↓keep_ret, vfinK_some, at_hp, pvs, List.map_nil, vfill, vbuildSlice, V.mk, slOf, vsrc, vbase, vappend, V.kill, List.toList_toArray, List.getElem?_cons_zero, List.length_cons, List.length_nil, List.map_cons, List.map_nil, List.cons_append, List.nil_append, List.take_nil, List.set_cons_zero, Option.map_some, ↓reduceIte, Nat.reduceLT, Nat.reduceLeDiff, Nat.reduceBEq, Int.reduceLT, Int.reduceBEq, Nat.zero_add, Nat.mul_one, true_and, and_self, or_true, Bool.or_true, Bool.true_and, Bool.and_self, cond_true, Bool.cond_self, beq_self_eq_true, Nat.le_refl, fz_len, fz_flat, Try.vzero4, Try.bytes4, Try.velem23, Try.notInt23, dec_t, Try.f21, Try.underlying23, h0, hx, hb]
    exact ⟨by simp, .inr ⟨_, .inl rfl, by simp, rfl, cells_nums _ _ _⟩⟩

theorem check_v (m : M) (h : m.ok) (hon : m.on = true) (hw : m.wait.length ≤ 1000) (s : Int) (h0 : 0 ≤ s) (h1 : s < m.done.length) : VCalls Try.prog 17 [.agg m.d, .int .i64 s] [] (Ret (.int .i64 0)) := by
  refine vcalls_drop (fn := Try.f17) Try.func17 rfl (by kernel_rfl) (by simp [Try.f17]) ?_
  have hv := valid_v m h hw
  obtain ⟨on, done, wait⟩ := m
  obtain rfl : on = true := hon
  dsimp only at h1
  simp (config := { maxSteps := 2000000 }) (disch := first | omega | assumption | (simp only [List.length_cons, List.length_nil, Nat.zero_add, Nat.reduceAdd]; done) | (simp only [IntKind.wrap_i64]; omega) | (simp only [List.length_replicate, List.length_set, List.length_append, List.length_cons, List.length_nil, List.length_take, List.length_drop, List.length_map] <;> omega) | fail) only [vop_assign, vcallee_assign, vop_box, vcallee_box, vop_load, vcallee_load, vcallee_value, vcal_fn, strip_pv, strip_ptr, strip_agg, strip_fn, optV_none, ev_tmp, ev_const, ev_func, ofConst_int, put_some, at_mk, fits_some, ↓look_cons, ↓vlook_t, ↓vlook_f, guard_none, ↓vrun_nil, ↓code_region, ↓code_seq, ↓code_block, ↓onNormal_normal, load_ptr, vld_agg, blk_zero, box_eq, allOne_nil, allOne_cons, one_pv, enum_nil, enum_cons, evG_eq, ↓vrun_cons, ↓run1_some, ↓run2_none, ↓run2_some, ↓run3_some, ↓vcg_none, List.map_nil, dcells, List.toList_toArray, List.length_cons, List.length_nil, List.map_cons, List.map_nil, List.nil_append, List.append_nil, List.take_succ_cons, List.take_nil, List.drop_zero, Option.map_some, ↓reduceIte, Nat.reduceAdd, Nat.reduceLT, Nat.reduceBEq, Int.reduceLT, Int.reduceAdd, Int.reduceBEq, Nat.zero_add, true_and, and_self, Bool.true_and, Bool.and_self, cond_true, Bool.cond_self, beq_self_eq_true, Nat.le_refl, Try.vt26, dec_t, Try.f17, M.d]
  refine vc_pure hv rfl ?_
  simp (config := { maxSteps := 2000000 }) (disch := first | omega | assumption | (simp only [List.length_cons, List.length_nil, Nat.zero_add, Nat.reduceAdd]; done) | (simp only [IntKind.wrap_i64]; omega) | (simp only [List.length_replicate, List.length_set, List.length_append, List.length_cons, List.length_nil, List.length_take, List.length_drop, List.length_map] <;> omega) | fail) only [vop_move, vcallee_move, vop_assign, vcallee_assign, vop_pick, vcallee_pick, vop_load, vcallee_load, vop_binOp, vcallee_binOp, vop_unOp, vcallee_unOp, vop_fieldAddr, vcallee_fieldAddr, vop_builtin, vcallee_builtin, bin2_tmp, bin2_int, vpick_bool, strip_pv, strip_ptr, strip_opt, vstr_true, optV_none, optV_some, pickV_bool, ev_tmp, ev_const, ofConst_int, ofConst_bool, put_some, at_mk, fits_some, ↓look_cons, ↓vlook_t, ↓vlook_f, guard_none, guard_some, vgof_bool, ↓vrun_nil, ↓code_skip, ↓code_region, ↓code_seq, ↓code_ret, ↓onNormal_normal, ↓onBlock_normal, frz_pv, frzHeap_zero, res_one, vres_tmp, load_ptr, vld_one, blk_zero, faddr_ptr, vfap_some, bin_int, int_lss, int_geq, un_not, len_sl, vlk_sl, bi_len, evG_eq, ↓vrun_cons, ↓run1_some, ↓run2_none, ↓run3_some, ↓runK_eq, ↓code_cond, ↓vtest_bool, ↓vbr_false, ↓vpost_ret, vfin_some, vfin2_some, at_hp, List.map_nil, List.getElem?_cons_zero, List.getElem?_cons_succ, List.map_cons, List.map_nil, Option.map_some, Option.bind_some, ↓reduceIte, reduceCtorEq, Nat.reduceLT, Nat.reduceBEq, Int.reduceLT, Int.reduceBEq, Nat.zero_add, Nat.add_zero, and_self, or_true, Bool.not_true, Bool.not_false, Bool.or_true, Bool.and_self, cond_false, Bool.cond_self, beq_self_eq_true, fz_len, Try.vt4, Try.vt23, Try.vkind23, Try.vfield26x0, Try.vfield26x1, dec_t, dec_f, Ret, DV.nums]

/-- Asked for. -/
def M.ask (m : M) (s : Int) : M := if m.done.getD s.toNat false = false ∧ ¬ s ∈ m.wait then ⟨m.on, m.done, m.wait ++ [s]⟩ else m
theorem ask_v (m : M) (h : m.ok) (hon : m.on = true) (hw : m.wait.length ≤ 1000) (s : Int) (h0 : 0 ≤ s) (h1 : s < m.done.length) : VCalls Try.prog 12 [.agg m.d, .int .i64 s] [] (Ret (.tup [.agg (m.ask s).d, .int .i64 0])) := by
  refine vcalls_drop (fn := Try.f12) Try.func12 rfl (by kernel_rfl) (by simp [Try.f12]) ?_
  have hv := check_v m h hon hw s h0 h1
  obtain ⟨on, done, wait⟩ := m
  dsimp only at hon h1 hw
  subst hon
  have hb := fzB_get done s.toNat (by omega)
  simp (config := { maxSteps := 2000000 }) (disch := first | omega | assumption | (simp only [List.length_cons, List.length_nil, Nat.zero_add, Nat.reduceAdd]; done) | (simp only [IntKind.wrap_i64]; omega) | (simp only [List.length_replicate, List.length_set, List.length_append, List.length_cons, List.length_nil, List.length_take, List.length_drop, List.length_map] <;> omega) | fail) only [vop_move, vcallee_move, vop_assign, vcallee_assign, vop_alloc, vcallee_alloc, vop_box, vcallee_box, vop_load, vcallee_load, vcallee_value, vcal_fn, strip_pv, strip_ptr, strip_agg, strip_fn, optV_none, ev_tmp, ev_const, ev_func, ofConst_int, put_some, at_mk, fits_some, ↓look_cons, ↓vlook_t, ↓vlook_f, guard_none, ↓vrun_nil, ↓code_region, ↓code_seq, ↓onNormal_normal, load_ptr, vld_agg, blk_zero, box_eq, alloc_eq, val1_some, allOne_nil, allOne_cons, one_pv, enum_nil, enum_cons, evG_eq, ↓vrun_cons, ↓run1_some, ↓run2_none, ↓run2_some, ↓run3_some, ↓vcg_none, List.map_nil, dcells, List.toList_toArray, List.length_cons, List.length_nil, List.map_cons, List.map_nil, List.cons_append, List.nil_append, List.append_nil, List.take_succ_cons, List.take_nil, List.drop_zero, Option.map_some, ↓reduceIte, Nat.reduceAdd, Nat.reduceLT, Nat.reduceBEq, Int.reduceLT, Int.reduceAdd, Int.reduceBEq, Nat.zero_add, true_and, and_self, Bool.true_and, Bool.and_self, cond_true, Bool.cond_self, beq_self_eq_true, Nat.le_refl, Try.vt26, Try.vzero26, dec_t, Try.f12, M.d]
  refine vc_pure hv rfl ?_
  simp (config := { maxSteps := 2000000 }) (disch := first | omega | assumption | (simp only [List.length_cons, List.length_nil, Nat.zero_add, Nat.reduceAdd]; done) | (simp only [IntKind.wrap_i64]; omega) | (simp only [List.length_replicate, List.length_set, List.length_append, List.length_cons, List.length_nil, List.length_take, List.length_drop, List.length_map] <;> omega) | fail) only [vop_move, vcallee_move, vop_assign, vcallee_assign, vop_load, vcallee_load, vop_binOp, vcallee_binOp, vop_unOp, vcallee_unOp, vop_fieldAddr, vcallee_fieldAddr, vop_indexAddr, vcallee_indexAddr, vcallee_value, vcal_fn, bin2_int, strip_pv, strip_ptr, strip_ip, strip_fn, strip_opt, vstr_true, optV_none, optV_some, ev_tmp, ev_const, ev_func, ofConst_int, put_some, at_mk, fits_some, ↓look_cons, ↓vlook_t, ↓vlook_f, guard_none, guard_some, vgof_bool, ↓vrun_nil, ↓code_skip, ↓code_region, ↓code_seq, ↓onNormal_normal, load_ptr, load_ip, vld_one, vldp_one, blk_zero, faddr_ptr, vfap_some, iaddr_sl, vias_some, bin_int, int_neq, un_not, evG_eq, ↓vrun_cons, ↓run1_some, ↓run2_none, ↓run2_some, ↓run3_some, ↓runK_eq, ↓vcg_some, ↓code_cond, ↓vtest_bool, ↓vbr_false, at_hp, List.map_nil, List.getElem?_cons_zero, List.getElem?_cons_succ, List.length_cons, List.length_nil, List.map_cons, List.map_nil, List.nil_append, List.append_nil, Option.map_some, Option.bind_some, ↓reduceIte, reduceCtorEq, Nat.reduceLT, Nat.reduceBEq, Int.reduceLT, Int.reduceBEq, Nat.zero_add, true_and, Bool.true_and, Bool.or_not_self, Bool.not_not, b_beq_t, Bool.cond_self, beq_self_eq_true, Try.vt4, Try.vt23, Try.velem23, Try.vt24, Try.vfield26x1, Try.vfield26x2, dec_t, int_bne_f, hb]
  unfold M.ask
  dsimp only
  by_cases hd : done.getD s.toNat false = false
  · have hcont := containsI_v wait s (by omega)
    simp (config := { maxSteps := 2000000 }) (disch := first | omega | assumption | (simp only [List.length_cons, List.length_nil, Nat.zero_add, Nat.reduceAdd]; done) | (simp only [IntKind.wrap_i64]; omega) | (simp only [List.length_replicate, List.length_set, List.length_append, List.length_cons, List.length_nil, List.length_take, List.length_drop, List.length_map] <;> omega) | fail) only [true_and, Bool.not_false, Bool.true_and, hd]
    refine vcg_pure (fun _ => hcont) rfl ?_
    simp (config := { maxSteps := 2000000 }) (disch := first | omega | assumption | (simp only [List.length_cons, List.length_nil, Nat.zero_add, Nat.reduceAdd]; done) | (simp only [IntKind.wrap_i64]; omega) | (simp only [List.length_replicate, List.length_set, List.length_append, List.length_cons, List.length_nil, List.length_take, List.length_drop, List.length_map] <;> omega) | fail) only [vop_pick, vcallee_pick, vop_unOp, vcallee_unOp, vpick_bool, strip_pv, strip_opt, vstr_true, optV_none, optV_some, pickV_bool, ev_tmp, ev_const, ofConst_bool, put_some, at_mk, fits_some, ↓look_cons, ↓vlook_t, ↓vlook_f, guard_none, guard_some, vgof_bool, ↓vrun_nil, ↓onNormal_normal, un_not, evG_eq, ↓vrun_cons, ↓run1_some, ↓run2_none, ↓run3_some, ↓runK_eq, ↓code_cond, ↓vtest_bool, List.getElem?_cons_zero, List.getElem?_cons_succ, Option.map_some, Option.bind_some, Nat.reduceLT, Nat.reduceBEq, Int.reduceLT, Int.reduceBEq, true_and, or_true, Bool.not_true, Bool.or_true, Bool.true_and, cond_true, Bool.cond_self, beq_self_eq_true, dec_t]
    by_cases hm : s ∈ wait
    · rw [if_neg (fun e => e hm)]
      simp (config := { maxSteps := 2000000 }) (disch := first | omega | assumption | (simp only [List.length_cons, List.length_nil, Nat.zero_add, Nat.reduceAdd]; done) | (simp only [IntKind.wrap_i64]; omega) | (simp only [List.length_replicate, List.length_set, List.length_append, List.length_cons, List.length_nil, List.length_take, List.length_drop, List.length_map] <;> omega) | fail) only [vop_assign, vcallee_assign, vop_load, vcallee_load, vop_store, vcallee_store, strip_pv, strip_ptr, strip_agg, optV_none, ev_tmp, ev_const, ofConst_int, put_some, put_none, at_mk, fits_some, fits_none, ↓look_cons, ↓vlook_t, ↓vlook_f, guard_none, ↓vrun_nil, ↓code_skip, ↓code_region, ↓code_seq, ↓code_ret, ↓onNormal_normal, frz_tup, frzT_agg, frzT_pv, frz1_pv, allSome_nil, allSome_cons, frzHeap_zero, res_two, vres_tmp, vres_cell, load_ptr, vld_agg, store_ptr, vst_agg, blk_zero, blk_succ, set_zero, set_succ, allOne_nil, allOne_cons, one_pv, evG_eq, ↓vrun_cons, ↓run1_some, ↓run2_none, ↓run3_some, ↓vbr_false, ↓vpost_ret, vfin_some, vfin2_some, at_hp, List.map_nil, V.splice, List.length_cons, List.length_nil, List.map_cons, List.map_nil, List.nil_append, List.append_nil, List.take_succ_cons, List.take_zero, List.take_nil, List.drop_succ_cons, List.drop_zero, List.drop_nil, Option.map_some, ↓reduceIte, Nat.reduceAdd, Nat.reduceLT, Nat.reduceBEq, Int.reduceLT, Int.reduceAdd, Int.reduceBEq, Nat.zero_add, and_self, Bool.not_true, Bool.and_self, cond_true, Bool.cond_self, beq_self_eq_true, Nat.le_refl, DV.wk.go, Try.vt26, dec_t, Ret, DV.nums, DV.nums.go, hm]
    · rw [if_pos hm]
      simp (config := { maxSteps := 2000000 }) (disch := first | omega | assumption | (simp only [List.length_cons, List.length_nil, Nat.zero_add, Nat.reduceAdd]; done) | (simp only [IntKind.wrap_i64]; omega) | (simp only [List.length_replicate, List.length_set, List.length_append, List.length_cons, List.length_nil, List.length_take, List.length_drop, List.length_map] <;> omega) | fail) only [vop_load, vcallee_load, vop_fieldAddr, vcallee_fieldAddr, vcallee_value, vcal_fn, strip_pv, strip_ptr, strip_fn, optV_none, ev_tmp, ev_func, put_some, at_mk, fits_some, ↓look_cons, ↓vlook_t, ↓vlook_f, guard_none, ↓code_region, load_ptr, vld_one, blk_zero, faddr_ptr, vfap_some, evG_eq, ↓vrun_cons, ↓run1_some, ↓run2_none, ↓run2_some, ↓run3_some, ↓vcg_none, ↓vbr_true, List.map_nil, List.getElem?_cons_zero, List.getElem?_cons_succ, List.map_cons, List.map_nil, List.nil_append, List.append_nil, Option.map_some, ↓reduceIte, reduceCtorEq, Nat.reduceLT, Nat.reduceBEq, Int.reduceLT, Int.reduceBEq, Nat.zero_add, decide_false, true_and, Bool.not_false, Bool.true_and, Bool.cond_self, beq_self_eq_true, Try.vt24, Try.vfield26x2, dec_t, hm]
      refine vc_new0 (cloneI_v wait (by omega)) rfl (cells_nums _ _ _) ?_
      have hb : (wait.length + 1) * 8 ≤ 140737488355328 := by omega
      have ht : (cells encI wait).take wait.length = cells encI wait := by rw [List.take_of_length_le]; rw [cellsI_len]; exact Nat.le_refl _
      have ha : (cells encI wait ++ [.pv (.lit (.int .i64 s))] : List DV) = cells encI (wait ++ [s]) := (cells_app encI wait [s]).symm
      have hl : (wait ++ [s]).length = wait.length + 1 := by simp
      simp (config := { maxSteps := 2000000 }) (disch := first | omega | assumption | (simp only [List.length_cons, List.length_nil, Nat.zero_add, Nat.reduceAdd]; done) | (simp only [IntKind.wrap_i64]; omega) | (simp only [List.length_replicate, List.length_set, List.length_append, List.length_cons, List.length_nil, List.length_take, List.length_drop, List.length_map] <;> omega) | fail) only [vop_move, vcallee_move, vop_assign, vcallee_assign, vop_buildSlice, vcallee_buildSlice, vop_load, vcallee_load, vop_store, vcallee_store, vop_fieldAddr, vcallee_fieldAddr, vop_builtin, vcallee_builtin, strip_pv, strip_ptr, strip_own, strip_agg, optV_none, ev_tmp, ev_const, ofConst_int, put_some, put_none, at_mk, fits_some, fits_none, ↓look_cons, ↓vlook_t, ↓vlook_f, guard_none, ↓vrun_nil, ↓code_region, ↓code_seq, ↓code_ret, ↓onNormal_normal, frz_tup, frzT_agg, frzT_pv, frz1_pv, frz1_own, allSome_nil, allSome_cons, frzHeap_zero, res_two, vres_tmp, vres_cell, load_ptr, vld_agg, store_ptr, vst_one, vst_agg, blk_zero, blk_succ, set_zero, set_succ, allOne_nil, allOne_cons, one_pv, one_own, faddr_ptr, vfap_some, bi_append, ap2_own, parts_nil, parts_cons, evG_eq, ↓vrun_cons, ↓run1_some, ↓run2_none, ↓run3_some, ↓runK_eq, ↓vpost_ret, vfin_some, vfin2_some, at_hp, List.map_nil, dcells, vfill, vbuildSlice, V.mk, vsrc, vbase, vappend, V.kill, V.splice, List.getElem?_cons_zero, List.getElem?_cons_succ, List.length_cons, List.length_nil, List.map_cons, List.map_nil, List.cons_append, List.nil_append, List.append_nil, List.take_succ_cons, List.take_zero, List.take_nil, List.drop_succ_cons, List.drop_zero, List.drop_nil, List.set_cons_zero, List.set_cons_succ, Option.map_some, ↓reduceIte, reduceCtorEq, Nat.reduceAdd, Nat.reduceLT, Nat.reduceLeDiff, Nat.reduceBEq, Int.reduceLT, Int.reduceAdd, Int.reduceBEq, Nat.zero_add, Nat.mul_one, and_self, Bool.and_self, cond_true, Bool.cond_self, beq_self_eq_true, Nat.le_refl, frzP_own, cellsI_len, DV.wk.go, Try.vzero3, Try.bytes3, Try.vt24, Try.velem24, Try.notInt24, Try.vt26, Try.vfield26x2, dec_t, Ret, DV.nums, DV.nums.go, cellsI_len, hb, ht, ha, frzC_I hl]
  · have hd : done.getD s.toNat false = true := by simpa using hd
    simp (config := { maxSteps := 2000000 }) (disch := first | omega | assumption | (simp only [List.length_cons, List.length_nil, Nat.zero_add, Nat.reduceAdd]; done) | (simp only [IntKind.wrap_i64]; omega) | (simp only [List.length_replicate, List.length_set, List.length_append, List.length_cons, List.length_nil, List.length_take, List.length_drop, List.length_map] <;> omega) | fail) only [↓reduceIte, reduceCtorEq, false_and, Bool.not_true, Bool.false_and, hd]
    refine vcg_no ?_
    simp (config := { maxSteps := 2000000 }) (disch := first | omega | assumption | (simp only [List.length_cons, List.length_nil, Nat.zero_add, Nat.reduceAdd]; done) | (simp only [IntKind.wrap_i64]; omega) | (simp only [List.length_replicate, List.length_set, List.length_append, List.length_cons, List.length_nil, List.length_take, List.length_drop, List.length_map] <;> omega) | fail) only [vop_assign, vcallee_assign, vop_pick, vcallee_pick, vop_load, vcallee_load, vop_store, vcallee_store, vop_unOp, vcallee_unOp, vpick_bool, strip_pv, strip_ptr, strip_agg, strip_tup, optV_none, ev_tmp, ev_const, ofConst_int, ofConst_bool, put_some, put_none, at_mk, fits_some, fits_none, ↓look_cons, ↓vlook_t, ↓vlook_f, guard_none, guard_some, vgof_bool, ↓vrun_nil, ↓code_skip, ↓code_region, ↓code_seq, ↓code_ret, ↓onNormal_normal, frz_tup, frzT_agg, frzT_pv, frz1_pv, allSome_nil, allSome_cons, frzHeap_zero, res_two, vres_tmp, vres_cell, load_ptr, vld_agg, store_ptr, vst_agg, blk_zero, blk_succ, set_zero, set_succ, allOne_nil, allOne_cons, one_pv, evG_eq, ↓vrun_cons, ↓run1_some, ↓run2_none, ↓run3_some, ↓run3_none, ↓runK_eq, ↓code_cond, ↓vtest_bool, ↓vbr_false, ↓vpost_ret, vfin_some, vfin2_some, at_hp, pickV_f, un_tup, List.map_nil, V.splice, List.getElem?_cons_zero, List.getElem?_cons_succ, List.length_cons, List.length_nil, List.map_cons, List.map_nil, List.nil_append, List.append_nil, List.take_succ_cons, List.take_zero, List.take_nil, List.drop_succ_cons, List.drop_zero, List.drop_nil, Option.map_some, Option.map_none, Option.bind_some, ↓reduceIte, Nat.reduceAdd, Nat.reduceLT, Nat.reduceBEq, Int.reduceLT, Int.reduceAdd, Int.reduceBEq, Nat.zero_add, and_self, Bool.not_false, Bool.and_self, b_beq_t, cond_true, Bool.cond_self, beq_self_eq_true, Nat.le_refl, DV.wk.go, Try.vt26, dec_t, Ret, DV.nums, DV.nums.go]

def boolN (l : List Bool) : Nat := (l.filter id).length
theorem boolN_succ (l : List Bool) (i : Nat) (h : i < l.length) : boolN (l.take (i + 1)) = boolN (l.take i) + (if l.getD i false = true then 1 else 0) := by
  rw [List.take_succ_eq_append_getElem h, boolN, List.filter_append, List.length_append, List.getD_eq_getElem?_getD, List.getElem?_eq_getElem h]
  cases hx : l[i] <;> simp [boolN, hx]
theorem boolN_le (l : List Bool) : boolN l ≤ l.length := List.length_filter_le _ _
theorem done_v (m : M) (hl : m.done.length ≤ 1000000) : VCalls Try.prog 24 [.agg m.d] [] (Ret (.int .i64 (boolN m.done))) := by
  refine vcalls_drop (fn := Try.f24) Try.func24 rfl (by kernel_rfl) (by simp [Try.f24]) ?_
  simp (config := { maxSteps := 2000000 }) (disch := first | omega | assumption | (simp only [List.length_cons, List.length_nil, Nat.zero_add, Nat.reduceAdd]; done) | (simp only [IntKind.wrap_i64]; omega) | (simp only [List.length_replicate, List.length_set, List.length_append, List.length_cons, List.length_nil, List.length_take, List.length_drop, List.length_map] <;> omega) | fail) only [vop_move, vcallee_move, vop_assign, vcallee_assign, vop_box, vcallee_box, vop_load, vcallee_load, vop_fieldAddr, vcallee_fieldAddr, vop_builtin, vcallee_builtin, strip_pv, strip_ptr, strip_agg, optV_none, ev_tmp, ev_const, ofConst_int, put_some, at_mk, fits_some, ↓look_cons, ↓vlook_t, ↓vlook_f, guard_none, ↓vrun_nil, ↓code_region, ↓code_seq, ↓code_block, ↓code_loop, ↓onNormal_normal, load_ptr, vld_one, blk_zero, box_eq, allOne_nil, allOne_cons, one_pv, faddr_ptr, vfap_some, len_sl, vlk_sl, bi_len, enum_nil, enum_cons, evG_eq, ↓vrun_cons, ↓run1_some, ↓run2_none, ↓run3_some, List.map_nil, dcells, List.toList_toArray, List.getElem?_cons_zero, List.getElem?_cons_succ, List.length_nil, List.map_cons, List.map_nil, List.nil_append, Option.map_some, ↓reduceIte, reduceCtorEq, Nat.reduceLT, Nat.reduceBEq, Int.reduceLT, Int.reduceBEq, Nat.zero_add, true_and, and_self, Bool.true_and, Bool.and_self, cond_true, Bool.cond_self, beq_self_eq_true, fz_len, Try.vt23, Try.vkind23, Try.vfield26x1, dec_t, Try.f24, M.d]
  refine vloop (fun i : {i : Nat // i ≤ m.done.length} => ⟨20, 0, [(8, .int .i64 i.1), (7, .int .i64 m.done.length), (3, .int .i64 (boolN (m.done.take i.1))), (1, .ptr 0 0)], [⟨26, true, m.d⟩]⟩) (fun i => m.done.length - i.1) ⟨0, by omega⟩ (by refine ⟨rfl, rfl, by simp, ?_, ?_, .inl rfl⟩ <;> (repeat' apply And.intro) <;> first | rfl | trivial) ?_
  rintro ⟨i, hi⟩
  dsimp only
  simp (config := { maxSteps := 2000000 }) (disch := first | omega | assumption | (simp only [List.length_cons, List.length_nil, Nat.zero_add, Nat.reduceAdd]; done) | (simp only [IntKind.wrap_i64]; omega) | (simp only [List.length_replicate, List.length_set, List.length_append, List.length_cons, List.length_nil, List.length_take, List.length_drop, List.length_map] <;> omega) | fail) only [vop_binOp, vcallee_binOp, bin2_tmp, strip_pv, optV_none, ev_tmp, put_some, at_mk, fits_some, ↓look_cons, ↓vlook_t, ↓vlook_f, guard_none, ↓vrun_nil, ↓code_region, ↓code_seq, ↓onNormal_normal, bin_int, int_lss, evG_eq, ↓vrun_cons, ↓run1_some, ↓run2_none, ↓run3_some, ↓code_cond, ↓vtest_bool, Option.map_some, Nat.reduceLT, Nat.reduceBEq, Int.reduceLT, Int.reduceBEq, true_and, Bool.true_and, Bool.cond_self, beq_self_eq_true, dec_t, M.d]
  refine vbr_split (fun hc => ?_) (fun hc => ?_) <;> simp only [decide_eq_true_eq, decide_eq_false_iff_not, Bool.or_eq_true, Bool.and_eq_true, Bool.or_eq_false_iff, Bool.and_eq_false_imp, Bool.not_eq_true', Bool.not_eq_false', beq_iff_eq, beq_eq_false_iff_ne, bne_iff_ne, bne_eq_false_iff_eq, ne_eq] at hc
  · have hlt : i < m.done.length := by omega
    have hg := fzB_get m.done i hlt
    have hs := boolN_succ m.done i hlt
    have hbl := boolN_le (m.done.take i)
    rw [List.length_take] at hbl
    simp (config := { maxSteps := 2000000 }) (disch := first | omega | assumption | (simp only [List.length_cons, List.length_nil, Nat.zero_add, Nat.reduceAdd]; done) | (simp only [IntKind.wrap_i64]; omega) | (simp only [List.length_replicate, List.length_set, List.length_append, List.length_cons, List.length_nil, List.length_take, List.length_drop, List.length_map] <;> omega) | fail) only [vop_move, vcallee_move, vop_assign, vcallee_assign, vop_load, vcallee_load, vop_fieldAddr, vcallee_fieldAddr, vop_indexAddr, vcallee_indexAddr, strip_pv, strip_ptr, strip_ip, optV_none, ev_tmp, put_some, at_mk, fits_some, ↓look_cons, ↓vlook_t, ↓vlook_f, guard_none, ↓vrun_nil, ↓code_skip, ↓code_region, ↓code_seq, ↓code_block, ↓onNormal_normal, load_ptr, load_ip, vld_one, vldp_one, blk_zero, faddr_ptr, vfap_some, iaddr_sl, vias_some, evG_eq, ↓vrun_cons, ↓run1_some, ↓run2_none, ↓run3_some, ↓code_cond, ↓vtest_bool, List.getElem?_cons_zero, List.getElem?_cons_succ, List.length_cons, List.length_nil, Option.map_some, ↓reduceIte, reduceCtorEq, Nat.reduceLT, Nat.reduceBEq, Int.reduceLT, Int.reduceBEq, Int.toNat_natCast, Nat.zero_add, true_and, Bool.true_and, Bool.cond_self, beq_self_eq_true, Try.vt4, Try.vt23, Try.velem23, Try.vfield26x1, dec_t, hg]
    refine vbr_split (fun hx => ?_) (fun hx => ?_)
    · rw [if_pos hx] at hs
      simp (config := { maxSteps := 2000000 }) (disch := first | omega | assumption | (simp only [List.length_cons, List.length_nil, Nat.zero_add, Nat.reduceAdd]; done) | (simp only [IntKind.wrap_i64]; omega) | (simp only [List.length_replicate, List.length_set, List.length_append, List.length_cons, List.length_nil, List.length_take, List.length_drop, List.length_map] <;> omega) | fail) only [vop_move, vcallee_move, vop_assign, vcallee_assign, vop_binOp, vcallee_binOp, bin2_int, strip_pv, optV_none, ev_tmp, ev_const, ofConst_int, put_some, at_mk, fits_some, ↓look_cons, ↓vlook_t, ↓vlook_f, guard_none, ↓vrun_nil, ↓code_region, ↓onNormal_normal, ↓onBlock_normal, bin_int, int_add, evG_eq, ↓vrun_cons, ↓run1_some, ↓run2_none, ↓run3_some, Option.map_some, Nat.reduceLT, Nat.reduceBEq, Int.reduceLT, Int.reduceBEq, true_and, Bool.true_and, Bool.cond_self, beq_self_eq_true, wrap_i64_in, dec_t]
      refine ⟨⟨i + 1, by omega⟩, by show m.done.length - (i + 1) < m.done.length - i; omega, ?_⟩
      dsimp only
      rw [hs]
      exact (by refine ⟨rfl, rfl, by simp, ?_, ?_, .inl rfl⟩ <;> (repeat' apply And.intro) <;> first | rfl | trivial)
    · rw [if_neg (by rw [hx]; simp), Nat.add_zero] at hs
      simp (config := { maxSteps := 2000000 }) (disch := first | omega | assumption | (simp only [List.length_cons, List.length_nil, Nat.zero_add, Nat.reduceAdd]; done) | (simp only [IntKind.wrap_i64]; omega) | (simp only [List.length_replicate, List.length_set, List.length_append, List.length_cons, List.length_nil, List.length_take, List.length_drop, List.length_map] <;> omega) | fail) only [vop_move, vcallee_move, vop_binOp, vcallee_binOp, bin2_int, strip_pv, optV_none, ev_tmp, ev_const, ofConst_int, put_some, at_mk, fits_some, ↓look_cons, ↓vlook_t, ↓vlook_f, guard_none, ↓vrun_nil, ↓code_skip, ↓code_region, ↓onNormal_normal, ↓onBlock_normal, bin_int, int_add, evG_eq, ↓vrun_cons, ↓run1_some, ↓run2_none, ↓run3_some, Option.map_some, Nat.reduceLT, Nat.reduceBEq, Int.reduceLT, Int.reduceBEq, true_and, Bool.true_and, Bool.cond_self, beq_self_eq_true, wrap_i64_in, dec_t]
      refine ⟨⟨i + 1, by omega⟩, by show m.done.length - (i + 1) < m.done.length - i; omega, ?_⟩
      dsimp only
      rw [hs]
      exact (by refine ⟨rfl, rfl, by simp, ?_, ?_, .inl rfl⟩ <;> (repeat' apply And.intro) <;> first | rfl | trivial)
  · have hi2 : i = m.done.length := by omega
    subst hi2
    simp (config := { maxSteps := 2000000 }) (disch := first | omega | assumption | (simp only [List.length_cons, List.length_nil, Nat.zero_add, Nat.reduceAdd]; done) | (simp only [IntKind.wrap_i64]; omega) | (simp only [List.length_replicate, List.length_set, List.length_append, List.length_cons, List.length_nil, List.length_take, List.length_drop, List.length_map] <;> omega) | fail) only [vop_move, vcallee_move, vop_assign, vcallee_assign, strip_pv, optV_none, ev_tmp, put_some, at_mk, fits_some, ↓look_cons, ↓vlook_t, ↓vlook_f, guard_none, ↓vrun_nil, ↓code_region, ↓code_seq, ↓code_exit, ↓code_ret, ↓onNormal_normal, ↓onNormal_exit, ↓onBlock_exit, frz_pv, frzHeap_zero, res_one, vres_tmp, evG_eq, ↓vrun_cons, ↓run1_some, ↓run2_none, ↓run3_some, ↓vpost_ret, vfin_some, vfin2_some, at_hp, ↓reduceIte, Nat.reduceLT, Nat.reduceBEq, Int.reduceLT, Int.reduceBEq, true_and, Bool.true_and, Bool.cond_self, beq_self_eq_true, dec_t, dec_f, Ret, DV.nums]
    rw [List.take_length]

/-- What is restored next. -/
def M.next (m : M) : Int × Bool := if m.on = false then (0, false) else match m.wait with | s :: _ => (s, true) | [] => (idxB m.done false, true)
theorem mnext_v (m : M) (h : m.ok) (hw : m.wait.length ≤ 1000) : VCalls Try.prog 13 [.agg m.d] [] (Ret (.tup [.int .i64 m.next.1, .bool m.next.2])) := by
  refine vcalls_drop (fn := Try.f13) Try.func13 rfl (by kernel_rfl) (by simp [Try.f13]) ?_
  have hv := valid_v m h hw
  obtain ⟨on, done, wait⟩ := m
  cases on
  · simp (config := { maxSteps := 2000000 }) (disch := first | omega | assumption | (simp only [List.length_cons, List.length_nil, Nat.zero_add, Nat.reduceAdd]; done) | (simp only [IntKind.wrap_i64]; omega) | (simp only [List.length_replicate, List.length_set, List.length_append, List.length_cons, List.length_nil, List.length_take, List.length_drop, List.length_map] <;> omega) | fail) only [vop_assign, vcallee_assign, vop_box, vcallee_box, vop_load, vcallee_load, vcallee_value, vcal_fn, strip_pv, strip_ptr, strip_agg, strip_fn, optV_none, ev_tmp, ev_const, ev_func, ofConst_int, ofConst_bool, put_some, at_mk, fits_some, ↓look_cons, ↓vlook_t, ↓vlook_f, guard_none, ↓vrun_nil, ↓code_region, ↓code_seq, ↓code_block, ↓onNormal_normal, load_ptr, vld_agg, blk_zero, box_eq, allOne_nil, allOne_cons, one_pv, enum_nil, enum_cons, evG_eq, ↓vrun_cons, ↓run1_some, ↓run2_none, ↓run2_some, ↓run3_some, ↓vcg_none, List.map_nil, dcells, List.toList_toArray, List.length_cons, List.length_nil, List.map_cons, List.map_nil, List.nil_append, List.append_nil, List.take_succ_cons, List.take_nil, List.drop_zero, Option.map_some, ↓reduceIte, Nat.reduceAdd, Nat.reduceLT, Nat.reduceBEq, Int.reduceLT, Int.reduceAdd, Int.reduceBEq, Nat.zero_add, true_and, and_self, Bool.true_and, Bool.and_self, cond_true, Bool.cond_self, beq_self_eq_true, Nat.le_refl, Try.vt26, dec_t, Try.f13, M.d]
    refine vc_pure hv rfl ?_
    simp (config := { maxSteps := 2000000 }) (disch := first | omega | assumption | (simp only [List.length_cons, List.length_nil, Nat.zero_add, Nat.reduceAdd]; done) | (simp only [IntKind.wrap_i64]; omega) | (simp only [List.length_replicate, List.length_set, List.length_append, List.length_cons, List.length_nil, List.length_take, List.length_drop, List.length_map] <;> omega) | fail) only [vop_move, vcallee_move, vop_assign, vcallee_assign, vop_pick, vcallee_pick, vop_load, vcallee_load, vop_unOp, vcallee_unOp, vop_fieldAddr, vcallee_fieldAddr, vpick_bool, strip_pv, strip_ptr, strip_opt, vstr_true, optV_none, optV_some, pickV_bool, ev_tmp, ev_const, ofConst_int, ofConst_bool, put_some, at_mk, fits_some, ↓look_cons, ↓vlook_t, ↓vlook_f, guard_none, guard_some, vgof_bool, ↓vrun_nil, ↓code_region, ↓code_seq, ↓code_ret, ↓onNormal_normal, ↓onNormal_ret, ↓onBlock_ret, frz_tup, frzT_pv, allSome_nil, allSome_cons, frzHeap_zero, res_two, vres_tmp, load_ptr, vld_one, blk_zero, faddr_ptr, vfap_some, un_not, evG_eq, ↓vrun_cons, ↓run1_some, ↓run2_none, ↓run3_some, ↓runK_eq, ↓code_cond, ↓vtest_bool, ↓vbr_true, ↓vpost_ret, vfin_some, vfin2_some, at_hp, List.map_nil, List.getElem?_cons_zero, List.getElem?_cons_succ, List.map_cons, List.map_nil, Option.map_some, Option.bind_some, ↓reduceIte, reduceCtorEq, Nat.reduceLT, Nat.reduceBEq, Int.reduceLT, Int.reduceBEq, Nat.add_zero, and_self, or_true, Bool.not_true, Bool.not_false, Bool.or_true, Bool.and_self, Bool.cond_self, beq_self_eq_true, DV.wk.go, Try.vt4, Try.vfield26x0, dec_t, Ret, DV.nums, DV.nums.go, M.next]
  · have hdl : done.length ≤ 16 := (h.2.1 rfl).2.1
    simp (config := { maxSteps := 2000000 }) (disch := first | omega | assumption | (simp only [List.length_cons, List.length_nil, Nat.zero_add, Nat.reduceAdd]; done) | (simp only [IntKind.wrap_i64]; omega) | (simp only [List.length_replicate, List.length_set, List.length_append, List.length_cons, List.length_nil, List.length_take, List.length_drop, List.length_map] <;> omega) | fail) only [vop_assign, vcallee_assign, vop_box, vcallee_box, vop_load, vcallee_load, vcallee_value, vcal_fn, strip_pv, strip_ptr, strip_agg, strip_fn, optV_none, ev_tmp, ev_const, ev_func, ofConst_int, ofConst_bool, put_some, at_mk, fits_some, ↓look_cons, ↓vlook_t, ↓vlook_f, guard_none, ↓vrun_nil, ↓code_region, ↓code_seq, ↓code_block, ↓onNormal_normal, load_ptr, vld_agg, blk_zero, box_eq, allOne_nil, allOne_cons, one_pv, enum_nil, enum_cons, evG_eq, ↓vrun_cons, ↓run1_some, ↓run2_none, ↓run2_some, ↓run3_some, ↓vcg_none, List.map_nil, dcells, List.toList_toArray, List.length_cons, List.length_nil, List.map_cons, List.map_nil, List.nil_append, List.append_nil, List.take_succ_cons, List.take_nil, List.drop_zero, Option.map_some, ↓reduceIte, Nat.reduceAdd, Nat.reduceLT, Nat.reduceBEq, Int.reduceLT, Int.reduceAdd, Int.reduceBEq, Nat.zero_add, true_and, and_self, Bool.true_and, Bool.and_self, cond_true, Bool.cond_self, beq_self_eq_true, Nat.le_refl, Try.vt26, dec_t, Try.f13, M.d]
    refine vc_pure hv rfl ?_
    cases wait with
    | nil =>
      simp (config := { maxSteps := 2000000 }) (disch := first | omega | assumption | (simp only [List.length_cons, List.length_nil, Nat.zero_add, Nat.reduceAdd]; done) | (simp only [IntKind.wrap_i64]; omega) | (simp only [List.length_replicate, List.length_set, List.length_append, List.length_cons, List.length_nil, List.length_take, List.length_drop, List.length_map] <;> omega) | fail) only [vop_move, vcallee_move, vop_assign, vcallee_assign, vop_pick, vcallee_pick, vop_load, vcallee_load, vop_binOp, vcallee_binOp, vop_unOp, vcallee_unOp, vop_fieldAddr, vcallee_fieldAddr, vop_builtin, vcallee_builtin, vcallee_value, vcal_fn, bin2_int, vpick_bool, strip_pv, strip_ptr, strip_fn, strip_opt, vstr_true, optV_none, optV_some, pickV_bool, ev_tmp, ev_const, ev_func, ofConst_int, ofConst_bool, put_some, at_mk, fits_some, ↓look_cons, ↓vlook_t, ↓vlook_f, guard_none, guard_some, vgof_bool, ↓vrun_nil, ↓code_skip, ↓code_region, ↓code_seq, ↓onNormal_normal, ↓onBlock_normal, load_ptr, vld_one, blk_zero, faddr_ptr, vfap_some, bin_int, int_gtr, un_not, len_sl, vlk_sl, bi_len, evG_eq, ↓vrun_cons, ↓run1_some, ↓run2_none, ↓run2_some, ↓run3_some, ↓runK_eq, ↓vcg_none, ↓code_cond, ↓vtest_bool, ↓vbr_false, List.map_nil, List.getElem?_cons_zero, List.getElem?_cons_succ, List.length_nil, List.map_cons, List.map_nil, List.nil_append, List.append_nil, Option.map_some, Option.bind_some, ↓reduceIte, reduceCtorEq, Nat.reduceLT, Nat.reduceBEq, Int.reduceLT, Int.reduceBEq, Nat.zero_add, Nat.add_zero, true_and, or_true, Bool.not_true, Bool.not_false, Bool.or_true, Bool.true_and, cond_false, Bool.cond_self, beq_self_eq_true, fz_len, Try.vt4, Try.vt23, Try.vt24, Try.vkind24, Try.vfield26x0, Try.vfield26x1, Try.vfield26x2, dec_t, dec_f]
      refine vc_pure (indexB_v done false (by omega)) rfl ?_
      simp (config := { maxSteps := 2000000 }) (disch := first | omega | assumption | (simp only [List.length_cons, List.length_nil, Nat.zero_add, Nat.reduceAdd]; done) | (simp only [IntKind.wrap_i64]; omega) | (simp only [List.length_replicate, List.length_set, List.length_append, List.length_cons, List.length_nil, List.length_take, List.length_drop, List.length_map] <;> omega) | fail) only [vop_assign, vcallee_assign, strip_pv, optV_none, ev_tmp, ev_const, ofConst_bool, put_some, at_mk, fits_some, ↓look_cons, ↓vlook_t, ↓vlook_f, guard_none, ↓vrun_nil, ↓code_ret, ↓onNormal_normal, frz_tup, frzT_pv, allSome_nil, allSome_cons, frzHeap_zero, res_two, vres_tmp, evG_eq, ↓vrun_cons, ↓run1_some, ↓run2_none, ↓run3_some, ↓runK_eq, ↓vpost_ret, vfin_some, vfin2_some, at_hp, List.map_nil, List.map_cons, List.map_nil, Option.map_some, ↓reduceIte, reduceCtorEq, Nat.reduceLT, Nat.reduceBEq, Int.reduceLT, Int.reduceBEq, and_self, Bool.and_self, Bool.cond_self, beq_self_eq_true, DV.wk.go, dec_t, Ret, DV.nums, DV.nums.go, M.next]
    | cons a r =>
      have hg := fzI_get (a :: r) 0 (by simp)
      have hp : (0 : Int) < ((r.length + 1 : Nat) : Int) := by omega
      simp (config := { maxSteps := 2000000 }) (disch := first | omega | assumption | (simp only [List.length_cons, List.length_nil, Nat.zero_add, Nat.reduceAdd]; done) | (simp only [IntKind.wrap_i64]; omega) | (simp only [List.length_replicate, List.length_set, List.length_append, List.length_cons, List.length_nil, List.length_take, List.length_drop, List.length_map] <;> omega) | fail) only [vop_move, vcallee_move, vop_assign, vcallee_assign, vop_pick, vcallee_pick, vop_load, vcallee_load, vop_binOp, vcallee_binOp, vop_unOp, vcallee_unOp, vop_fieldAddr, vcallee_fieldAddr, vop_indexAddr, vcallee_indexAddr, vop_builtin, vcallee_builtin, bin2_int, vpick_bool, strip_pv, strip_ptr, strip_ip, strip_opt, vstr_true, optV_none, optV_some, pickV_bool, ev_tmp, ev_const, ofConst_int, ofConst_bool, put_some, at_mk, fits_some, ↓look_cons, ↓vlook_t, ↓vlook_f, guard_none, guard_some, vgof_bool, ↓vrun_nil, ↓code_region, ↓code_seq, ↓code_ret, ↓onNormal_normal, ↓onNormal_ret, ↓onBlock_ret, frz_tup, frzT_pv, allSome_nil, allSome_cons, frzHeap_zero, res_two, vres_tmp, load_ptr, load_ip, vld_one, vldp_one, blk_zero, faddr_ptr, vfap_some, iaddr_sl, vias_some, bin_int, int_gtr, un_not, len_sl, vlk_sl, bi_len, evG_eq, ↓vrun_cons, ↓run1_some, ↓run2_none, ↓run3_some, ↓runK_eq, ↓code_cond, ↓vtest_bool, ↓vbr_true, ↓vbr_false, ↓vpost_ret, vfin_some, vfin2_some, at_hp, List.map_nil, List.getElem?_cons_zero, List.getElem?_cons_succ, List.length_cons, List.length_nil, List.map_cons, List.map_nil, Option.map_some, Option.bind_some, ↓reduceIte, reduceCtorEq, Nat.reduceLT, Nat.reduceBEq, Int.reduceToNat, Int.reduceLT, Int.reduceBEq, Nat.zero_add, Nat.add_zero, true_and, and_self, or_true, Bool.not_true, Bool.not_false, Bool.or_true, Bool.true_and, Bool.and_self, cond_false, Bool.cond_self, beq_self_eq_true, fz_len, DV.wk.go, Try.vt3, Try.vt4, Try.vt24, Try.velem24, Try.vkind24, Try.vfield26x0, Try.vfield26x2, dec_t, Ret, DV.nums, DV.nums.go, hg, hp]
      rfl

/-- One is done. -/
def M.fin (m : M) (s : Int) : M :=
  let d := m.done.set s.toNat true
  if boolN d = d.length then M0 else ⟨m.on, d, keepL m.wait (fun x => x == s)⟩
set_option maxHeartbeats 2000000 in
theorem finish_v (m : M) (h : m.ok) (hon : m.on = true) (hw : m.wait.length ≤ 1000) (s : Int) (h0 : 0 ≤ s) (h1 : s < m.done.length) (h2 : m.done.getD s.toNat false = false) : VCalls Try.prog 14 [.agg m.d, .int .i64 s] [] (Ret (.tup [.agg (m.fin s).d, .int .i64 0])) := by
  have hv := check_v m h hon hw s h0 h1
  have hdl : m.done.length ≤ 16 := (h.2.1 hon).2.1
  refine VCalls.unwk ?_
  refine vcalls_drop (fn := Try.f14) Try.func14 rfl (by kernel_rfl) (by simp [Try.f14]) ?_
  obtain ⟨on, done, wait⟩ := m
  dsimp only at hon h1 h2 hw hdl
  subst hon
  have hb := fzB_get done s.toNat (by omega)
  rw [h2] at hb
  simp (config := { maxSteps := 2000000 }) (disch := first | omega | assumption | (simp only [List.length_cons, List.length_nil, Nat.zero_add, Nat.reduceAdd]; done) | (simp only [IntKind.wrap_i64]; omega) | (simp only [List.length_replicate, List.length_set, List.length_append, List.length_cons, List.length_nil, List.length_take, List.length_drop, List.length_map] <;> omega) | fail) only [vop_assign, vcallee_assign, vop_alloc, vcallee_alloc, vop_box, vcallee_box, vop_load, vcallee_load, vcallee_value, vcal_fn, strip_pv, strip_ptr, strip_agg, strip_fn, optV_none, ev_tmp, ev_const, ev_func, ofConst_int, put_some, at_mk, fits_some, ↓look_cons, ↓vlook_t, ↓vlook_f, guard_none, ↓vrun_nil, ↓code_region, ↓code_seq, ↓onNormal_normal, load_ptr, vld_one, vld_agg, blk_zero, blk_succ, box_eq, alloc_eq, val1_some, allOne_nil, allOne_cons, one_pv, enum_nil, enum_cons, evG_eq, ↓vrun_cons, ↓run1_some, ↓run2_none, ↓run2_some, ↓run3_some, ↓vcg_none, List.map_nil, dcells, List.toList_toArray, List.getElem?_cons_zero, List.length_cons, List.length_nil, List.map_cons, List.map_nil, List.cons_append, List.nil_append, List.append_nil, List.take_succ_cons, List.take_nil, List.drop_zero, Option.map_some, ↓reduceIte, Nat.reduceAdd, Nat.reduceLT, Nat.reduceBEq, Int.reduceLT, Int.reduceAdd, Int.reduceBEq, Nat.zero_add, true_and, and_self, Bool.true_and, Bool.and_self, cond_true, Bool.cond_self, beq_self_eq_true, Nat.le_refl, Try.vt3, Try.vt26, Try.vzero26, dec_t, Try.f14, M.d]
  refine vc_pure hv rfl ?_
  simp (config := { maxSteps := 2000000 }) (disch := first | omega | assumption | (simp only [List.length_cons, List.length_nil, Nat.zero_add, Nat.reduceAdd]; done) | (simp only [IntKind.wrap_i64]; omega) | (simp only [List.length_replicate, List.length_set, List.length_append, List.length_cons, List.length_nil, List.length_take, List.length_drop, List.length_map] <;> omega) | fail) only [vop_move, vcallee_move, vop_assign, vcallee_assign, vop_load, vcallee_load, vop_binOp, vcallee_binOp, vop_fieldAddr, vcallee_fieldAddr, vop_indexAddr, vcallee_indexAddr, vcallee_value, vcal_fn, bin2_int, strip_pv, strip_ptr, strip_ip, strip_fn, optV_none, ev_tmp, ev_const, ev_func, ofConst_int, put_some, at_mk, fits_some, ↓look_cons, ↓vlook_t, ↓vlook_f, guard_none, ↓vrun_nil, ↓code_skip, ↓code_region, ↓code_seq, ↓onNormal_normal, load_ptr, load_ip, vld_one, vldp_one, blk_zero, blk_succ, faddr_ptr, vfap_some, iaddr_sl, vias_some, bin_int, int_neq, evG_eq, ↓vrun_cons, ↓run1_some, ↓run2_none, ↓run2_some, ↓run3_some, ↓runK_eq, ↓vcg_none, ↓code_cond, ↓vtest_bool, ↓vbr_false, List.map_nil, List.getElem?_cons_zero, List.getElem?_cons_succ, List.length_cons, List.length_nil, List.map_cons, List.map_nil, List.nil_append, List.append_nil, Option.map_some, ↓reduceIte, reduceCtorEq, Nat.reduceLT, Nat.reduceBEq, Int.reduceLT, Int.reduceBEq, Nat.zero_add, true_and, Bool.true_and, Bool.cond_self, beq_self_eq_true, Try.vt3, Try.vt4, Try.vt23, Try.velem23, Try.vfield26x1, dec_t, int_bne_f, hb]
  refine vc_new0 (cloneB_v done (by omega)) rfl (cells_nums _ _ _) ?_
  have hsl : s.toNat < done.length := by omega
  simp (config := { maxSteps := 2000000 }) (disch := first | omega | assumption | (simp only [List.length_cons, List.length_nil, Nat.zero_add, Nat.reduceAdd]; done) | (simp only [IntKind.wrap_i64]; omega) | (simp only [List.length_replicate, List.length_set, List.length_append, List.length_cons, List.length_nil, List.length_take, List.length_drop, List.length_map] <;> omega) | fail) only [vop_load, vcallee_load, vop_store, vcallee_store, vop_fieldAddr, vcallee_fieldAddr, vop_indexAddr, vcallee_indexAddr, vcallee_value, vcal_fn, strip_pv, strip_ptr, strip_own, strip_fn, optV_none, ev_tmp, ev_const, ev_func, ofConst_bool, put_some, put_none, at_mk, fits_some, fits_none, ↓look_cons, ↓vlook_t, ↓vlook_f, guard_none, ↓vrun_nil, ↓code_region, ↓code_seq, ↓onNormal_normal, load_ptr, vld_one, store_ptr, vst_one, blk_zero, blk_succ, set_zero, set_succ, one_pv, one_own, faddr_ptr, vfap_some, iaddr_own, viao_some, evG_eq, ↓vrun_cons, ↓run1_some, ↓run2_none, ↓run2_some, ↓run3_some, ↓runK_eq, ↓vcg_none, List.map_nil, List.getElem?_cons_zero, List.getElem?_cons_succ, List.length_cons, List.length_nil, List.map_cons, List.map_nil, List.cons_append, List.nil_append, List.append_nil, List.set_cons_zero, List.set_cons_succ, Option.map_some, ↓reduceIte, reduceCtorEq, Nat.reduceAdd, Nat.reduceLT, Nat.reduceBEq, Int.reduceLT, Int.reduceAdd, Int.reduceBEq, Nat.zero_add, Nat.mul_one, true_and, and_self, Bool.true_and, Bool.and_self, cond_true, Bool.cond_self, beq_self_eq_true, cellsB_len, cellsB_set, Try.vt3, Try.vt4, Try.vt23, Try.velem23, Try.vt24, Try.vfield26x1, Try.vfield26x2, dec_t, cellsB_set, cellsB_len, hsl]
  refine vc_new0 (cloneI_v wait (by omega)) rfl (cells_nums _ _ _) ?_
  simp (config := { maxSteps := 2000000 }) (disch := first | omega | assumption | (simp only [List.length_cons, List.length_nil, Nat.zero_add, Nat.reduceAdd]; done) | (simp only [IntKind.wrap_i64]; omega) | (simp only [List.length_replicate, List.length_set, List.length_append, List.length_cons, List.length_nil, List.length_take, List.length_drop, List.length_map] <;> omega) | fail) only [vop_makeFunc, vcallee_makeFunc, vcallee_value, vcal_fn, strip_ptr, strip_own, strip_fn, optV_none, ev_tmp, ev_func, put_some, at_mk, fits_some, ↓look_cons, ↓vlook_t, ↓vlook_f, guard_none, evG_eq, ↓vrun_cons, ↓run1_some, ↓run2_none, ↓run2_some, ↓run3_some, ↓runK_eq, ↓vcg_none, List.map_nil, List.length_cons, List.length_nil, List.map_cons, List.map_nil, List.cons_append, List.nil_append, List.append_nil, Nat.reduceAdd, Nat.reduceLT, Nat.reduceBEq, Int.reduceLT, Int.reduceAdd, Int.reduceBEq, Nat.zero_add, true_and, Bool.true_and, Bool.cond_self, beq_self_eq_true, dec_t]
  refine vc_newP [4, 1] [4] (deleteFI_v wait (by omega) 23 3 [.lit (.int .i64 s)] (fun x => x == s) (fun x _ => fin1_v x s)) rfl ⟨⟨by simp, cells_nums _ _ _⟩, ⟨by simp, rfl⟩, trivial⟩ (by decide) rfl rfl rfl (cells_nums _ _ _) ?_
  simp (config := { maxSteps := 2000000 }) (disch := first | omega | assumption | (simp only [List.length_cons, List.length_nil, Nat.zero_add, Nat.reduceAdd]; done) | (simp only [IntKind.wrap_i64]; omega) | (simp only [List.length_replicate, List.length_set, List.length_append, List.length_cons, List.length_nil, List.length_take, List.length_drop, List.length_map] <;> omega) | fail) only [vop_store, vcallee_store, vop_fieldAddr, vcallee_fieldAddr, strip_ptr, strip_own, optV_none, ev_tmp, put_some, put_none, at_mk, fits_some, fits_none, ↓look_cons, ↓vlook_t, ↓vlook_f, guard_none, ↓vrun_nil, ↓code_draw, ↓code_seq, ↓onNormal_normal, store_ptr, vst_one, blk_zero, set_zero, one_own, faddr_ptr, vfap_some, evG_eq, ↓vrun_cons, ↓run1_some, ↓run2_none, ↓run3_some, ↓runK_eq, V.kill, kills, List.getElem?_cons_zero, List.getElem?_cons_succ, List.length_cons, List.length_nil, List.cons_append, List.nil_append, List.set_cons_zero, List.set_cons_succ, Option.map_some, ↓reduceIte, reduceCtorEq, Nat.reduceAdd, Nat.reduceLT, Nat.reduceBEq, Int.reduceLT, Int.reduceAdd, Int.reduceBEq, Nat.zero_add, true_and, and_self, Bool.true_and, Bool.and_self, cond_true, Bool.cond_self, beq_self_eq_true, Try.vt24, Try.vfield26x2, dec_t]
  refine vspine [0, 2, 3, 4] [⟨[], [], 1, [2, 3, 4], [5]⟩] (by kernel_rfl) (by kernel_rfl) ?_
  simp (config := { maxSteps := 2000000 }) (disch := first | omega | assumption | (simp only [List.length_cons, List.length_nil, Nat.zero_add, Nat.reduceAdd]; done) | (simp only [IntKind.wrap_i64]; omega) | (simp only [List.length_replicate, List.length_set, List.length_append, List.length_cons, List.length_nil, List.length_take, List.length_drop, List.length_map] <;> omega) | fail) only [vop_load, vcallee_load, vop_fieldAddr, vcallee_fieldAddr, vop_builtin, vcallee_builtin, vcallee_value, vcal_fn, strip_ptr, strip_own, strip_agg, strip_fn, optV_none, ev_tmp, ev_func, put_some, at_mk, fits_some, ↓look_cons, ↓vlook_t, ↓vlook_f, guard_none, ↓vrun_nil, load_ptr, vld_one, vld_agg, blk_zero, faddr_ptr, vfap_some, vlk_sl, len_own, bi_len, evG_eq, ↓vrun_cons, ↓run1_some, ↓run2_none, ↓run2_some, ↓run3_some, ↓vcg_none, List.map_nil, List.getElem?_cons_zero, List.getElem?_cons_succ, List.length_cons, List.length_nil, List.map_cons, List.map_nil, List.nil_append, List.append_nil, List.take_succ_cons, List.take_nil, List.drop_zero, Option.map_some, ↓reduceIte, reduceCtorEq, Nat.reduceAdd, Nat.reduceLT, Nat.reduceBEq, Int.reduceLT, Int.reduceAdd, Int.reduceBEq, Nat.zero_add, true_and, Bool.true_and, Bool.cond_self, beq_self_eq_true, Nat.le_refl, ↓vsp_cons, vspC_true, vspR_eq, pick_nil, pick_cons, pickO_some, creas_nil, Try.vt23, Try.vkind23, Try.vt26, Try.vfield26x1, dec_t]
  have hds : (done.set s.toNat true).length = done.length := by simp
  have hmore : ∀ (n : Nat) (hp : Heap), frzC n hp 0 1 (keepL wait fun x => x == s).length (some (cells encI (thin wait (fun x => x == s) 0))) = some (.sl (fz encI (keepL wait fun x => x == s))) := fun n hp => cells_more encI (n := n) (hp := hp) (m := List.replicate (wait.length - (keepL wait fun x => x == s).length) 0) (l := keepL wait fun x => x == s) rfl
  have hfull := fun n hp => frzC_B (n := n) (hp := hp) hds
  refine vc_lendA (args0 := [.agg (M.d ⟨true, done.set s.toNat true, keepL wait (fun x => x == s)⟩)]) (done_v ⟨true, done.set s.toNat true, keepL wait (fun x => x == s)⟩ (by rw [hds]; omega)) (by simp (config := { maxSteps := 2000000 }) (disch := first | omega | assumption | (simp only [List.length_cons, List.length_nil, Nat.zero_add, Nat.reduceAdd]; done) | (simp only [IntKind.wrap_i64]; omega) | (simp only [List.length_replicate, List.length_set, List.length_append, List.length_cons, List.length_nil, List.length_take, List.length_drop, List.length_map] <;> omega) | fail) only [frz1_own, allSome_nil, allSome_cons, blk_zero, blk_succ, List.map_nil, List.map_cons, List.map_nil, Option.map_some, ↓reduceIte, Nat.reduceLT, Int.reduceLT, frzP_own, frzA_agg, frzB_ownE, frzB_pv, M.d, hmore, hfull]) rfl ?_
  simp (config := { maxSteps := 2000000 }) (disch := first | omega | assumption | (simp only [List.length_cons, List.length_nil, Nat.zero_add, Nat.reduceAdd]; done) | (simp only [IntKind.wrap_i64]; omega) | (simp only [List.length_replicate, List.length_set, List.length_append, List.length_cons, List.length_nil, List.length_take, List.length_drop, List.length_map] <;> omega) | fail) only [vop_binOp, vcallee_binOp, foot_fieldAddr, foot_load, foot_call, ptrNo_ptr, bin2_tmp, strip_pv, strip_ptr, optV_none, ev_tmp, put_some, at_mk, fits_some, ↓look_cons, ↓vlook_t, ↓vlook_f, guard_none, ↓vrun_nil, ↓onNormal_normal, bin_int, int_eql, evG_eq, ↓vrun_cons, ↓run1_some, ↓run2_none, ↓run3_some, ↓runK_eq, ↓code_cond, ↓vtest_bool, List.getElem?_cons_zero, List.getElem?_cons_succ, Option.map_some, Nat.reduceLT, Nat.reduceBEq, Int.reduceLT, Int.reduceBEq, true_and, and_self, Bool.true_and, Bool.and_self, Bool.cond_self, beq_self_eq_true, ↓vsp_nil, ↓vspK_eq, vspC_true, vspR_eq, pick_nil, pick_cons, pickO_some, agree_nil, agree_cons, agree1_some, sameAt_nil, sameAt_cons, dec_t]
  unfold M.fin
  dsimp only
  by_cases hall : boolN (done.set s.toNat true) = (done.set s.toNat true).length
  · have hc : ((boolN (done.set s.toNat true) : Int) == (done.length : Int)) = true := by rw [hall, hds]; simp
    rw [if_pos hall]
    simp (config := { maxSteps := 2000000 }) (disch := first | omega | assumption | (simp only [List.length_cons, List.length_nil, Nat.zero_add, Nat.reduceAdd]; done) | (simp only [IntKind.wrap_i64]; omega) | (simp only [List.length_replicate, List.length_set, List.length_append, List.length_cons, List.length_nil, List.length_take, List.length_drop, List.length_map] <;> omega) | fail) only [vop_assign, vcallee_assign, vop_build, vcallee_build, vop_store, vcallee_store, strip_pv, strip_ptr, strip_agg, optV_none, ev_tmp, ev_const, ofConst_int, put_some, put_none, at_mk, fits_some, fits_none, ↓look_cons, ↓vlook_t, ↓vlook_f, guard_none, ↓vrun_nil, ↓code_region, ↓code_seq, ↓code_ret, ↓onNormal_normal, ↓onNormal_ret, frz_tup, frzT_agg, frzT_pv, frz1_pv, allSome_nil, allSome_cons, frzHeap_zero, res_two, vres_tmp, vres_cell, load_ptr, vld_agg, store_ptr, vst_agg, blk_zero, blk_succ, set_zero, set_succ, allOne_nil, allOne_cons, one_pv, parts_nil, evG_eq, ↓vrun_cons, ↓run1_some, ↓run2_none, ↓run3_some, ↓vbr_true, ↓vpost_ret, vfin_some, vfin2_some, at_hp, List.map_nil, vbuild, vfill, V.splice, List.length_cons, List.length_nil, List.map_cons, List.map_nil, List.nil_append, List.append_nil, List.take_succ_cons, List.take_zero, List.take_nil, List.drop_succ_cons, List.drop_zero, List.drop_nil, Option.map_some, ↓reduceIte, Nat.reduceAdd, Nat.reduceLT, Nat.reduceBEq, Int.reduceLT, Int.reduceAdd, Int.reduceBEq, Nat.zero_add, true_and, and_self, Bool.true_and, Bool.and_self, Bool.cond_self, beq_self_eq_true, Nat.le_refl, RetW, DV.wk, DV.wk.go, PV.wk, Try.vt26, Try.vplaces26, Try.vzero26, dec_t, DV.nums, DV.nums.go, hc, M0]
    rfl
  · have hc : ((boolN (done.set s.toNat true) : Int) == (done.length : Int)) = false := by
      rw [hds] at hall
      simp only [beq_eq_false_iff_ne, ne_eq]
      omega
    rw [if_neg hall]
    simp (config := { maxSteps := 2000000 }) (disch := first | omega | assumption | (simp only [List.length_cons, List.length_nil, Nat.zero_add, Nat.reduceAdd]; done) | (simp only [IntKind.wrap_i64]; omega) | (simp only [List.length_replicate, List.length_set, List.length_append, List.length_cons, List.length_nil, List.length_take, List.length_drop, List.length_map] <;> omega) | fail) only [vop_assign, vcallee_assign, vop_load, vcallee_load, vop_store, vcallee_store, strip_pv, strip_ptr, strip_agg, optV_none, ev_tmp, ev_const, ofConst_int, put_some, put_none, at_mk, fits_some, fits_none, ↓look_cons, ↓vlook_t, ↓vlook_f, guard_none, ↓vrun_nil, ↓code_skip, ↓code_region, ↓code_seq, ↓code_ret, ↓onNormal_normal, frz_tup, frzT_agg, frzT_pv, frz1_pv, frz1_own, allSome_nil, allSome_cons, frzHeap_zero, res_two, vres_tmp, vres_cell, load_ptr, vld_agg, store_ptr, vst_agg, blk_zero, blk_succ, set_zero, set_succ, allOne_nil, allOne_cons, one_pv, one_own, evG_eq, ↓vrun_cons, ↓run1_some, ↓run2_none, ↓run3_some, ↓vbr_false, ↓vpost_ret, vfin_some, vfin2_some, at_hp, List.map_nil, V.splice, List.length_cons, List.length_nil, List.map_cons, List.map_nil, List.nil_append, List.append_nil, List.take_succ_cons, List.take_zero, List.take_nil, List.drop_succ_cons, List.drop_zero, List.drop_nil, Option.map_some, ↓reduceIte, Nat.reduceAdd, Nat.reduceLT, Nat.reduceBEq, Int.reduceLT, Int.reduceAdd, Int.reduceBEq, Nat.zero_add, and_self, Bool.and_self, cond_true, Bool.cond_self, beq_self_eq_true, Nat.le_refl, frzP_own, RetW, DV.wk, DV.wk.go, PV.wk, Try.vt26, dec_t, DV.nums, DV.nums.go, hc, hmore, hfull]
end Go.Proofs.Ytheibaofmffkkaa

namespace Go.Proofs.Ytheibaofmffkkaa
open Go.V Go
set_option maxRecDepth 100000
set_option linter.unusedSimpArgs false

theorem nodup_sub_len {α : Type} [BEq α] [LawfulBEq α] : ∀ (A B : List α), A.Nodup → (∀ a ∈ A, a ∈ B) → A.length ≤ B.length
  | [], _, _, _ => Nat.zero_le _
  | a :: r, B, hn, hs => by
    rw [List.nodup_cons] at hn
    have hm := hs a (by simp)
    have := nodup_sub_len r (B.erase a) hn.2 (fun b hb => by
      have hne : b ≠ a := fun e => hn.1 (e ▸ hb)
      exact (List.mem_erase_of_ne hne).2 (hs b (by simp [hb])))
    rw [List.length_erase_of_mem hm] at this
    have := List.length_pos_of_mem hm
    simp only [List.length_cons]; omega

/-- The numbers below n, in some order: the first q as they were asked for, the others ascending. -/
structure Ord (n q : Nat) (A : List Int) : Prop where
  nd : A.Nodup
  rng : ∀ a ∈ A, 0 ≤ a ∧ a < n
  all : ∀ s : Nat, s < n → (s : Int) ∈ A
  asc : (A.drop q).Pairwise (· < ·)
theorem Ord.len {n q : Nat} {A : List Int} (h : Ord n q A) : A.length = n := by
  have h1 : A.length ≤ ((List.range n).map fun s : Nat => (s : Int)).length := nodup_sub_len _ _ h.nd fun a ha => by
    obtain ⟨r1, r2⟩ := h.rng a ha
    rw [List.mem_map]
    exact ⟨a.toNat, by rw [List.mem_range]; omega, by omega⟩
  have h2 : ((List.range n).map fun s : Nat => (s : Int)).length ≤ A.length := by
    refine nodup_sub_len _ _ ?_ fun a ha => ?_
    · exact List.Pairwise.map _ (fun a b (hab : a ≠ b) e => hab (by omega)) List.nodup_range
    · rw [List.mem_map] at ha
      obtain ⟨s, hs, rfl⟩ := ha
      exact h.all s (by rwa [List.mem_range] at hs)
  simp only [List.length_map, List.length_range] at h1 h2
  omega
theorem ord_mk (n : Nat) (w : List Int) (hn : w.Nodup) (hr : ∀ a ∈ w, 0 ≤ a ∧ a < n) : Ord n w.length (w ++ ((List.range n).filter fun s : Nat => !decide ((s : Int) ∈ w)).map fun s : Nat => (s : Int)) := by
  refine ⟨?_, ?_, ?_, ?_⟩
  · rw [List.nodup_append]
    refine ⟨hn, ?_, ?_⟩
    · refine List.Pairwise.map _ (fun a b (hab : a ≠ b) e => hab (by omega)) ?_
      exact List.Nodup.sublist List.filter_sublist List.nodup_range
    · intro a ha b hb e
      subst e
      rw [List.mem_map] at hb
      obtain ⟨s, hs, rfl⟩ := hb
      rw [List.mem_filter] at hs
      simp [ha] at hs
  · intro a ha
    rcases List.mem_append.1 ha with ha | ha
    · exact hr a ha
    · rw [List.mem_map] at ha
      obtain ⟨s, hs, rfl⟩ := ha
      rw [List.mem_filter, List.mem_range] at hs
      omega
  · intro s hs
    rw [List.mem_append]
    by_cases hm : (s : Int) ∈ w
    · exact .inl hm
    · exact .inr (List.mem_map.2 ⟨s, by rw [List.mem_filter, List.mem_range]; exact ⟨hs, by simp [hm]⟩, rfl⟩)
  · rw [List.drop_left]
    refine List.Pairwise.map _ (fun a b (hab : a < b) => by omega) ?_
    exact List.Pairwise.sublist List.filter_sublist List.pairwise_lt_range

/-- What is done after i steps. -/
def dn (n : Nat) (A : List Int) (i : Nat) : List Bool := (List.range n).map fun s : Nat => decide ((s : Int) ∈ A.take i)
theorem dn_len (n : Nat) (A : List Int) (i : Nat) : (dn n A i).length = n := by simp [dn]
theorem dn_get (n : Nat) (A : List Int) (i s : Nat) (h : s < n) : (dn n A i).getD s false = decide ((s : Int) ∈ A.take i) := by
  rw [List.getD_eq_getElem?_getD, dn, List.getElem?_map, List.getElem?_range h]; rfl
theorem dn_at (n : Nat) (A : List Int) (i s : Nat) (h : s < (dn n A i).length) : (dn n A i)[s] = decide ((s : Int) ∈ A.take i) := by
  simp [dn]
theorem dn_zero (n : Nat) (A : List Int) : dn n A 0 = List.replicate n false := by
  apply List.ext_getElem
  · simp [dn]
  · intro s h1 h2
    rw [dn_at]; simp
theorem not_take {A : List Int} (hn : A.Nodup) (i : Nat) (h : i < A.length) : ¬ A[i] ∈ A.take i := by
  intro hm
  obtain ⟨j, hj, e⟩ := List.mem_take_iff_getElem.1 hm
  exact List.pairwise_iff_getElem.mp hn j i (by omega) h (by omega) e
theorem mem_take_succ {A : List Int} (i : Nat) (h : i < A.length) (a : Int) : a ∈ A.take (i + 1) ↔ a ∈ A.take i ∨ a = A[i] := by
  rw [List.take_succ_eq_append_getElem h, List.mem_append, List.mem_singleton]
theorem dn_succ {n q : Nat} {A : List Int} (h : Ord n q A) (i : Nat) (hi : i < A.length) : (dn n A i).set A[i].toNat true = dn n A (i + 1) := by
  obtain ⟨r1, r2⟩ := h.rng A[i] (List.getElem_mem hi)
  apply List.ext_getElem
  · simp [dn]
  · intro s h1 h2
    rw [List.getElem_set, dn_at, dn_at]
    split
    · rename_i e
      have : (s : Int) = A[i] := by omega
      rw [this]
      exact (decide_eq_true ((mem_take_succ i hi _).2 (.inr rfl))).symm
    · rename_i e
      have hne : ¬ (s : Int) = A[i] := by omega
      apply decide_eq_decide.2
      rw [mem_take_succ i hi]
      simp [hne]
theorem dn_cur {n q : Nat} {A : List Int} (h : Ord n q A) (i : Nat) (hi : i < A.length) : (dn n A i).getD A[i].toNat false = false := by
  obtain ⟨r1, r2⟩ := h.rng A[i] (List.getElem_mem hi)
  rw [dn_get _ _ _ _ (by omega), decide_eq_false_iff_not, show ((A[i].toNat : Nat) : Int) = A[i] by omega]
  exact not_take h.nd i hi
theorem dn_false {n q : Nat} {A : List Int} (h : Ord n q A) (i : Nat) (hi : i < A.length) : false ∈ dn n A i := by
  obtain ⟨r1, r2⟩ := h.rng A[i] (List.getElem_mem hi)
  have := dn_cur h i hi
  have hlt : A[i].toNat < (dn n A i).length := by rw [dn_len]; omega
  rw [List.getD_eq_getElem?_getD, List.getElem?_eq_getElem hlt] at this
  rw [← show (dn n A i)[A[i].toNat] = false from this]
  exact List.getElem_mem hlt
theorem boolN_full (l : List Bool) : boolN l = l.length ↔ ¬ false ∈ l := by
  unfold boolN
  rw [List.length_filter_eq_length_iff]
  constructor
  · intro h hm; exact absurd (h false hm) (by simp)
  · intro h a ha
    cases a
    · exact absurd ha h
    · rfl
theorem dn_full {n q : Nat} {A : List Int} (h : Ord n q A) (i : Nat) (hi : i < A.length) : boolN (dn n A (i + 1)) = (dn n A (i + 1)).length ↔ i + 1 = n := by
  rw [boolN_full]
  have hl := h.len
  constructor
  · intro hf
    rcases Nat.lt_or_ge (i + 1) n with hlt | hge
    · exact absurd (dn_false h (i + 1) (by omega)) hf
    · omega
  · intro e hm
    obtain ⟨s, hs, he⟩ := List.getElem_of_mem hm
    rw [dn_at, decide_eq_false_iff_not, e, ← hl, List.take_length] at he
    rw [dn_len] at hs
    exact he (h.all s hs)
theorem dn_next {n q : Nat} {A : List Int} (h : Ord n q A) (i : Nat) (hi : i < A.length) (hq : q ≤ i) : idxB (dn n A i) false = A[i] := by
  obtain ⟨r1, r2⟩ := h.rng A[i] (List.getElem_mem hi)
  have hlt : A[i].toNat < (dn n A i).length := by rw [dn_len]; omega
  have := idxB_at (dn n A i) false A[i].toNat hlt (by
    have := dn_cur h i hi
    rwa [List.getD_eq_getElem?_getD, List.getElem?_eq_getElem hlt] at this) (fun x hx => by
    obtain ⟨s, hs, rfl⟩ := List.mem_take_iff_getElem.1 hx
    rw [dn_at, decide_eq_false_iff_not]
    intro hno
    have hsn : s < n := by rw [dn_len] at hs; omega
    obtain ⟨j, hj, he⟩ := List.getElem_of_mem (h.all s hsn)
    rcases Nat.lt_or_ge j i with hji | hji
    · exact hno (List.mem_take_iff_getElem.2 ⟨j, by omega, he⟩)
    · rcases Nat.eq_or_lt_of_le hji with rfl | hji
      · omega
      · have := List.pairwise_iff_getElem.mp h.asc (i - q) (j - q) (by rw [List.length_drop]; omega) (by rw [List.length_drop]; omega) (by omega)
        rw [List.getElem_drop, List.getElem_drop] at this
        simp only [show q + (i - q) = i by omega, show q + (j - q) = j by omega] at this
        omega)
  rw [this]; omega

/-- The restoration after i steps. -/
def stp (n q : Nat) (A : List Int) (i : Nat) : M := if i < n then ⟨true, dn n A i, (A.take q).drop i⟩ else M0
theorem stp_lt {n q : Nat} {A : List Int} {i : Nat} (h : i < n) : stp n q A i = ⟨true, dn n A i, (A.take q).drop i⟩ := if_pos h
theorem stp_n {n q : Nat} {A : List Int} : stp n q A n = M0 := if_neg (by omega)
theorem M0_ok : M0.ok := ⟨fun _ => ⟨rfl, rfl⟩, fun h => absurd h (by decide), List.nodup_nil, fun s hs => absurd hs (by simp [M0])⟩
theorem mem_drop_take {A : List Int} {q i : Nat} {a : Int} (h : a ∈ (A.take q).drop i) : ∃ j, ∃ hj : j < A.length, i ≤ j ∧ j < q ∧ A[j] = a := by
  obtain ⟨k, hk, e⟩ := List.getElem_of_mem h
  have hk' := hk
  rw [List.length_drop, List.length_take] at hk'
  refine ⟨i + k, by omega, by omega, by omega, ?_⟩
  rw [← e, List.getElem_drop, List.getElem_take]
theorem stp_ok {n q : Nat} {A : List Int} (h : Ord n q A) (h1 : 1 ≤ n) (h16 : n ≤ 16) (i : Nat) : (stp n q A i).ok := by
  by_cases hi : i < n
  · rw [stp_lt hi]
    have hl := h.len
    refine ⟨fun e => absurd e (by simp), fun _ => ⟨by dsimp only; rw [dn_len]; exact h1, by dsimp only; rw [dn_len]; exact h16, dn_false h i (by omega)⟩, ?_, ?_⟩
    · exact List.Nodup.sublist ((List.drop_sublist _ _).trans (List.take_sublist _ _)) h.nd
    · intro s hs
      obtain ⟨j, hj, hij, hjq, rfl⟩ := mem_drop_take hs
      obtain ⟨r1, r2⟩ := h.rng A[j] (List.getElem_mem hj)
      refine ⟨r1, by dsimp only; rw [dn_len]; exact r2, ?_⟩
      dsimp only
      rw [dn_get _ _ _ _ (by omega), decide_eq_false_iff_not, show ((A[j].toNat : Nat) : Int) = A[j] by omega]
      intro hm
      obtain ⟨k, hk, e⟩ := List.mem_take_iff_getElem.1 hm
      exact List.pairwise_iff_getElem.mp h.nd k j (by omega) hj (by omega) e
  · rw [stp, if_neg hi]; exact M0_ok
theorem stp_wait {n q : Nat} {A : List Int} (i : Nat) (hl : A.length ≤ 16) : (stp n q A i).wait.length ≤ 1000 := by
  unfold stp
  split
  · simp only [List.length_drop, List.length_take]; omega
  · exact Nat.zero_le _
theorem stp_next {n q : Nat} {A : List Int} (h : Ord n q A) (i : Nat) (hi : i < A.length) : (stp n q A i).next = (A[i], true) := by
  have hl := h.len
  rw [stp_lt (by omega), M.next, if_neg (by simp)]
  by_cases hq : i < q
  · have e : (A.take q).drop i = A[i] :: (A.take q).drop (i + 1) := by
      rw [List.drop_eq_getElem_cons (by rw [List.length_take]; omega), List.getElem_take]
    dsimp only
    rw [e]
  · have e : (A.take q).drop i = [] := List.drop_of_length_le (by rw [List.length_take]; omega)
    dsimp only
    rw [e]
    dsimp only
    rw [dn_next h i hi (by omega)]
theorem ofP4 (a : Int) (h : 0 ≤ a) : ofP (4 * a) = a := by unfold ofP; rw [if_neg (by omega)]; omega
theorem stp_there {n q : Nat} {A : List Int} (h : Ord n q A) (i : Nat) (hi : i < A.length) : (stp n q A i).there (4 * A[i]) = false := by
  have hl := h.len
  obtain ⟨r1, r2⟩ := h.rng A[i] (List.getElem_mem hi)
  rw [stp_lt (by omega), M.there, ofP4 _ r1]
  dsimp only
  rw [dn_cur h i hi]; simp
theorem stp_fin {n q : Nat} {A : List Int} (h : Ord n q A) (i : Nat) (hi : i < A.length) : (stp n q A i).fin A[i] = stp n q A (i + 1) := by
  have hl := h.len
  rw [stp_lt (by omega), M.fin]
  dsimp only
  rw [dn_succ h i hi]
  by_cases hn : i + 1 = n
  · rw [if_pos ((dn_full h i hi).2 hn), stp, if_neg (by omega)]
  · rw [if_neg (fun e => hn ((dn_full h i hi).1 e)), stp_lt (by omega)]
    congr 1
    by_cases hq : i < q
    · have e : (A.take q).drop i = A[i] :: (A.take q).drop (i + 1) := by
        rw [List.drop_eq_getElem_cons (by rw [List.length_take]; omega), List.getElem_take]
      rw [e, keepL, List.filter_cons]
      simp only [beq_self_eq_true, Bool.not_true, Bool.false_eq_true, if_false]
      rw [List.filter_eq_self]
      intro a ha
      obtain ⟨j, hj, hij, _, rfl⟩ := mem_drop_take ha
      have : A[j] ≠ A[i] := fun e => List.pairwise_iff_getElem.mp h.nd i j hi hj (by omega) e.symm
      simpa using this
    · have e : (A.take q).drop i = [] := List.drop_of_length_le (by rw [List.length_take]; omega)
      have e2 : (A.take q).drop (i + 1) = [] := List.drop_of_length_le (by rw [List.length_take]; omega)
      rw [e, e2]; rfl
theorem stp_there2 {n q : Nat} {A : List Int} (h : Ord n q A) (i : Nat) (hi : i < A.length) : (stp n q A (i + 1)).there (4 * A[i]) = true := by
  have hl := h.len
  obtain ⟨r1, r2⟩ := h.rng A[i] (List.getElem_mem hi)
  by_cases hn : i + 1 < n
  · rw [stp_lt hn, M.there, ofP4 _ r1]
    dsimp only
    rw [dn_get _ _ _ _ (by omega), dn_len, decide_eq_true ((mem_take_succ i hi _).2 (.inr (by omega))), decide_eq_true r1, decide_eq_true r2]; rfl
  · rw [stp, if_neg hn]; rfl
end Go.Proofs.Ytheibaofmffkkaa

namespace Go.Proofs.Ytheibaofmffkkaa
open Go.V Go
set_option maxRecDepth 100000
set_option pp.deepTerms true
set_option pp.deepTerms.threshold 100000
set_option pp.maxSteps 1000000
set_option pp.proofs false
set_option linter.unusedSimpArgs false

def cb (c : C) : Blk := ⟨44, true, cc c⟩
/-- What a contract of a method of Codes says. -/
abbrev CX (R : DV → Prop) : DV → Heap → Prop := fun r h' => ∃ B', h' = [B'] ∧ B'.live = true ∧ DV.nums.go (fun _ => false) B'.cells = true ∧ r.nums (fun _ => false) = true ∧ (R r ∧ ∃ c', B' = cb c')

theorem vc_cx {g : FuncId} {args : List DV} {hp : Heap} {k : Nat} {c : C} {R : DV → Prop} {K : DV → Heap → Prop} (h : VCalls Try.prog g (args.map (DV.ren fun _ => 0)) [cb c] (CX R)) (hk : hp[k]? = some (cb c))
    (ha : DV.nums.go (fun i => i == k) args = true) (hK : ∀ r c', R r → K r (hp.set k (cb c'))) : VCalls Try.prog g args hp K :=
  (VCalls.ptr1 (R := fun r B' => R r ∧ ∃ c', B' = cb c') hk rfl (cc_nums c) h ha).mono fun r h' ⟨B', e1, _, _, e2, e3⟩ => by subst e1; obtain ⟨c', rfl⟩ := e3; exact hK r c' e2

/-- A choice below n. -/
abbrev Nx (n : Nat) : DV → Prop := fun r => ∃ x : Nat, r = .int .i64 x ∧ x < n

theorem next0_v (c : C) (n : Nat) (h1 : 1 ≤ n) (hn : n ≤ 256) : VCalls Try.prog 11 [.ptr 0 0, .int .i64 n] [cb c] (CX (Nx n)) := by
  refine vcalls_drop (fn := Try.f11) Try.func11 rfl (by kernel_rfl) (by simp [Try.f11]) ?_
  have ha := c.ha
  have hl := c.hl
  simp (config := { maxSteps := 2000000 }) (disch := first | omega | assumption | (simp only [List.length_cons, List.length_nil, Nat.zero_add, Nat.reduceAdd]; done) | (simp only [IntKind.wrap_i64]; omega) | (simp only [List.length_replicate, List.length_set, List.length_append, List.length_cons, List.length_nil, List.length_take, List.length_drop, List.length_map] <;> omega) | fail) only [vop_assign, vcallee_assign, strip_pv, optV_none, ev_const, ofConst_int, put_some, at_mk, fits_some, guard_none, ↓vrun_nil, ↓code_region, ↓code_draw, ↓code_seq, ↓onNormal_normal, enum_nil, enum_cons, evG_eq, ↓vrun_cons, ↓run1_some, ↓run2_none, ↓run3_some, List.toList_toArray, List.length_cons, List.length_nil, Nat.reduceAdd, Nat.reduceLT, Int.reduceLT, Int.reduceAdd, Nat.zero_add, true_and, Bool.true_and, Bool.cond_self, dec_t, Try.f11, cb, cc]
  refine vdraw (by kernel_rfl) (by kernel_rfl) ?_
  by_cases a : c.at_ < c.l.length
  · simp (config := { maxSteps := 2000000 }) (disch := first | omega | assumption | (simp only [List.length_cons, List.length_nil, Nat.zero_add, Nat.reduceAdd]; done) | (simp only [IntKind.wrap_i64]; omega) | (simp only [List.length_replicate, List.length_set, List.length_append, List.length_cons, List.length_nil, List.length_take, List.length_drop, List.length_map] <;> omega) | fail) only [vop_move, vcallee_move, okKind_move, foot_move, vop_pick, vcallee_pick, okKind_pick, foot_pick, vop_load, vcallee_load, okKind_load, vop_nilCheck, vcallee_nilCheck, okKind_nilCheck, foot_nilCheck, vop_binOp, vcallee_binOp, okKind_binOp, foot_binOp, vop_fieldAddr, vcallee_fieldAddr, okKind_fieldAddr, foot_fieldAddr, foot_load, foot_call, okKind_len, vop_builtin, vcallee_builtin, ptrNo_ptr, bin2_tmp, bin2_int, vnil_ptr, vpick_bool, strip_pv, strip_ptr, strip_opt, vstr_true, optV_none, optV_some, pickV_bool, ev_tmp, ev_const, ofConst_int, ofConst_bool, put_some, at_mk, fits_some, ↓look_cons, ↓vlook_t, ↓vlook_f, guard_none, guard_some, vgof_bool, ↓vdr_nil, ↓code_skip, ↓code_draw, ↓code_seq, ↓onNormal_normal, load_ptr, vld_one, blk_zero, faddr_ptr, vfap_some, bin_int, int_lss, int_geq, len_sl, vlk_sl, bi_len, okc_nil, okc_none, okc_other, okc_one, evG_eq, ↓vdr_cons, ↓dr1_some, ↓dr2_none, ↓dr3_some, ↓code_cond, ↓vtest_bool, ↓vbr_false, List.map_nil, List.getElem?_cons_zero, List.getElem?_cons_succ, List.map_cons, List.map_nil, List.cons_append, List.nil_append, List.any_nil, List.any_cons, Option.map_some, Option.bind_some, ↓reduceIte, reduceCtorEq, Nat.reduceAdd, Nat.reduceLT, Nat.reduceBEq, Int.reduceLT, Int.reduceAdd, Int.reduceBEq, Nat.zero_add, Nat.add_zero, true_and, and_true, and_self, and_false, or_true, or_false, or_self, Bool.not_true, Bool.not_false, Bool.or_true, Bool.or_false, Bool.and_true, Bool.true_and, Bool.and_false, Bool.or_self, Bool.and_self, cond_false, Bool.cond_self, beq_self_eq_true, fz_len, Try.vt3, Try.vt35, Try.vkind35, Try.vfield44x0, Try.vfield44x1, dec_t, dec_f]
    refine vdraw (by kernel_rfl) (by kernel_rfl) ?_
    have hg := fzU_get c.l c.at_ a
    have hh : (c.l.getD c.at_ 0).toNat < 256 := UInt8.toNat_lt _
    simp (config := { maxSteps := 2000000 }) (disch := first | omega | assumption | (simp only [List.length_cons, List.length_nil, Nat.zero_add, Nat.reduceAdd]; done) | (simp only [IntKind.wrap_i64]; omega) | (simp only [List.length_replicate, List.length_set, List.length_append, List.length_cons, List.length_nil, List.length_take, List.length_drop, List.length_map] <;> omega) | fail) only [vop_move, vcallee_move, okKind_move, foot_move, vop_assign, vcallee_assign, okKind_assign, foot_assign, vop_load, vcallee_load, okKind_load, vop_store, vcallee_store, vop_nilCheck, vcallee_nilCheck, okKind_nilCheck, foot_nilCheck, vop_binOp, vcallee_binOp, vop_convert, vcallee_convert, okKind_convert, vop_fieldAddr, vcallee_fieldAddr, okKind_fieldAddr, foot_fieldAddr, vop_indexAddr, vcallee_indexAddr, okKind_indexAddr, foot_indexAddr, foot_load, foot_convert, ptrNo_ptr, ptrNo_ip, conv_pv, bin2_tmp, bin2_int, ownNo_pv, vnil_ptr, strip_pv, strip_ptr, strip_ip, optV_none, ev_tmp, ev_const, ofConst_int, put_some, put_none, at_mk, fits_some, fits_none, ↓look_cons, ↓vlook_t, ↓vlook_f, guard_none, ↓vrun_nil, ↓vdr_nil, ↓code_skip, ↓code_region, ↓code_seq, ↓code_ret, ↓onNormal_normal, frz_pv, frz1_pv, allSome_nil, allSome_cons, res_one, vres_tmp, load_ptr, load_ip, vld_one, vldp_one, store_ptr, vst_one, blk_zero, set_zero, one_pv, faddr_ptr, vfap_some, iaddr_sl, vias_some, bin_int, int_add, int_gtr, int_rem, okc_nil, okc_none, okc_other, okc_one, conv_int, vci_int, evG_eq, ↓vrun_cons, ↓run1_some, ↓run2_none, ↓run3_some, ↓vdr_cons, ↓dr1_some, ↓dr2_none, ↓dr3_some, ↓code_cond, ↓vtest_bool, ↓vbr_false, ↓vpost_ret, vfin_some, vfin2_some, at_hp, frzHeap_one, frzH1_some, List.map_nil, List.getElem?_cons_zero, List.getElem?_cons_succ, List.length_cons, List.length_nil, List.map_cons, List.map_nil, List.cons_append, List.nil_append, List.set_cons_zero, List.set_cons_succ, List.any_nil, List.any_cons, Option.map_some, ↓reduceIte, reduceCtorEq, Nat.reduceAdd, Nat.reduceLT, Nat.reduceBEq, Int.reduceLT, Int.reduceAdd, Int.reduceBEq, Int.toNat_natCast, Nat.zero_add, Nat.add_zero, true_and, and_true, and_self, and_false, or_false, or_self, Bool.not_false, Bool.or_false, Bool.and_true, Bool.true_and, Bool.and_false, Bool.or_self, Bool.and_self, cond_true, Bool.cond_self, beq_self_eq_true, Try.vt3, Try.vkind3, Try.vt5, Try.vkind5, Try.vt35, Try.velem35, Try.vfield44x0, Try.vfield44x1, wrap_i64_in, dec_t, dec_f, hg]
    obtain ⟨y, hy, hlt⟩ := tmod_lt' (c.l.getD c.at_ 0).toNat n h1
    refine ⟨_, rfl, rfl, rfl, rfl, ⟨y, by rw [hy], hlt⟩, ⟨c.l, c.at_ + 1, a, hl⟩, rfl⟩
  · simp (config := { maxSteps := 2000000 }) (disch := first | omega | assumption | (simp only [List.length_cons, List.length_nil, Nat.zero_add, Nat.reduceAdd]; done) | (simp only [IntKind.wrap_i64]; omega) | (simp only [List.length_replicate, List.length_set, List.length_append, List.length_cons, List.length_nil, List.length_take, List.length_drop, List.length_map] <;> omega) | fail) only [vop_move, vcallee_move, okKind_move, foot_move, vop_assign, vcallee_assign, vop_pick, vcallee_pick, okKind_pick, foot_pick, vop_load, vcallee_load, okKind_load, vop_nilCheck, vcallee_nilCheck, okKind_nilCheck, foot_nilCheck, vop_binOp, vcallee_binOp, okKind_binOp, foot_binOp, vop_fieldAddr, vcallee_fieldAddr, okKind_fieldAddr, foot_fieldAddr, foot_load, foot_call, okKind_len, vop_builtin, vcallee_builtin, ptrNo_ptr, bin2_tmp, bin2_int, vnil_ptr, vpick_bool, strip_pv, strip_ptr, strip_opt, vstr_true, vstr_false, optV_none, optV_some, pickV_bool, ev_tmp, ev_const, ofConst_int, ofConst_bool, put_some, at_mk, fits_some, ↓look_cons, ↓vlook_t, ↓vlook_f, guard_none, guard_some, vgof_bool, ↓vrun_nil, ↓vdr_nil, ↓code_region, ↓code_seq, ↓code_ret, ↓onNormal_normal, ↓onNormal_ret, frz_pv, frz1_pv, allSome_nil, allSome_cons, res_one, vres_tmp, load_ptr, vld_one, blk_zero, faddr_ptr, vfap_some, bin_int, int_lss, int_geq, len_sl, vlk_sl, bi_len, okc_nil, okc_none, okc_other, okc_one, evG_eq, ↓vrun_cons, ↓run1_some, ↓run2_none, ↓run3_some, ↓vdr_cons, ↓dr1_some, ↓dr2_none, ↓dr3_some, ↓code_cond, ↓vtest_bool, ↓vbr_true, ↓vpost_ret, vfin_some, vfin2_some, at_hp, frzHeap_one, frzH1_some, List.map_nil, List.getElem?_cons_zero, List.getElem?_cons_succ, List.map_cons, List.map_nil, List.cons_append, List.nil_append, List.any_nil, List.any_cons, Option.map_some, Option.bind_some, ↓reduceIte, reduceCtorEq, Nat.reduceAdd, Nat.reduceLT, Nat.reduceBEq, Int.reduceLT, Int.reduceAdd, Int.reduceBEq, Nat.zero_add, Nat.add_zero, true_and, and_true, and_self, and_false, or_false, or_self, Bool.not_true, Bool.not_false, Bool.or_false, Bool.and_true, Bool.true_and, Bool.and_false, Bool.or_self, Bool.and_self, b_beq_f, cond_true, Bool.cond_self, beq_self_eq_true, fz_len, Try.vt3, Try.vt35, Try.vkind35, Try.vfield44x0, Try.vfield44x1, dec_t, dec_f]
    exact ⟨_, rfl, rfl, rfl, rfl, ⟨0, rfl, h1⟩, c, rfl⟩

theorem next_v (c : C) (n : Nat) (h1 : 1 ≤ n) (hn : n ≤ 1000000) : VCalls Try.prog 11 [.ptr 0 0, .int .i64 n] [cb c] (CX (Nx n)) := by
  by_cases hs : n ≤ 256
  · exact next0_v c n h1 hs
  refine vcalls_drop (fn := Try.f11) Try.func11 rfl (by kernel_rfl) (by simp [Try.f11]) ?_
  have ha := c.ha
  have hl := c.hl
  simp (config := { maxSteps := 2000000 }) (disch := first | omega | assumption | (simp only [List.length_cons, List.length_nil, Nat.zero_add, Nat.reduceAdd]; done) | (simp only [IntKind.wrap_i64]; omega) | (simp only [List.length_replicate, List.length_set, List.length_append, List.length_cons, List.length_nil, List.length_take, List.length_drop, List.length_map] <;> omega) | fail) only [vop_assign, vcallee_assign, strip_pv, optV_none, ev_const, ofConst_int, put_some, at_mk, fits_some, guard_none, ↓vrun_nil, ↓code_region, ↓code_draw, ↓code_seq, ↓onNormal_normal, enum_nil, enum_cons, evG_eq, ↓vrun_cons, ↓run1_some, ↓run2_none, ↓run3_some, List.toList_toArray, List.length_cons, List.length_nil, Nat.reduceAdd, Nat.reduceLT, Int.reduceLT, Int.reduceAdd, Nat.zero_add, true_and, Bool.true_and, Bool.cond_self, dec_t, Try.f11, cb, cc]
  refine vdraw (by kernel_rfl) (by kernel_rfl) ?_
  by_cases a : c.at_ < c.l.length
  · simp (config := { maxSteps := 2000000 }) (disch := first | omega | assumption | (simp only [List.length_cons, List.length_nil, Nat.zero_add, Nat.reduceAdd]; done) | (simp only [IntKind.wrap_i64]; omega) | (simp only [List.length_replicate, List.length_set, List.length_append, List.length_cons, List.length_nil, List.length_take, List.length_drop, List.length_map] <;> omega) | fail) only [vop_move, vcallee_move, okKind_move, foot_move, vop_pick, vcallee_pick, okKind_pick, foot_pick, vop_load, vcallee_load, okKind_load, vop_nilCheck, vcallee_nilCheck, okKind_nilCheck, foot_nilCheck, vop_binOp, vcallee_binOp, okKind_binOp, foot_binOp, vop_fieldAddr, vcallee_fieldAddr, okKind_fieldAddr, foot_fieldAddr, foot_load, foot_call, okKind_len, vop_builtin, vcallee_builtin, ptrNo_ptr, bin2_tmp, bin2_int, vnil_ptr, vpick_bool, strip_pv, strip_ptr, strip_opt, vstr_true, optV_none, optV_some, pickV_bool, ev_tmp, ev_const, ofConst_int, ofConst_bool, put_some, at_mk, fits_some, ↓look_cons, ↓vlook_t, ↓vlook_f, guard_none, guard_some, vgof_bool, ↓vdr_nil, ↓code_skip, ↓code_draw, ↓code_seq, ↓onNormal_normal, load_ptr, vld_one, blk_zero, faddr_ptr, vfap_some, bin_int, int_lss, int_geq, len_sl, vlk_sl, bi_len, okc_nil, okc_none, okc_other, okc_one, evG_eq, ↓vdr_cons, ↓dr1_some, ↓dr2_none, ↓dr3_some, ↓code_cond, ↓vtest_bool, ↓vbr_false, List.map_nil, List.getElem?_cons_zero, List.getElem?_cons_succ, List.map_cons, List.map_nil, List.cons_append, List.nil_append, List.any_nil, List.any_cons, Option.map_some, Option.bind_some, ↓reduceIte, reduceCtorEq, Nat.reduceAdd, Nat.reduceLT, Nat.reduceBEq, Int.reduceLT, Int.reduceAdd, Int.reduceBEq, Nat.zero_add, Nat.add_zero, true_and, and_true, and_self, and_false, or_true, or_false, or_self, Bool.not_true, Bool.not_false, Bool.or_true, Bool.or_false, Bool.and_true, Bool.true_and, Bool.and_false, Bool.or_self, Bool.and_self, cond_false, Bool.cond_self, beq_self_eq_true, fz_len, Try.vt3, Try.vt35, Try.vkind35, Try.vfield44x0, Try.vfield44x1, dec_t, dec_f]
    refine vdraw (by kernel_rfl) (by kernel_rfl) ?_
    have hg := fzU_get c.l c.at_ a
    have hh : (c.l.getD c.at_ 0).toNat < 256 := UInt8.toNat_lt _
    generalize hx : (c.l.getD c.at_ 0).toNat = x at hg hh
    simp (config := { maxSteps := 2000000 }) (disch := first | omega | assumption | (simp only [List.length_cons, List.length_nil, Nat.zero_add, Nat.reduceAdd]; done) | (simp only [IntKind.wrap_i64]; omega) | (simp only [List.length_replicate, List.length_set, List.length_append, List.length_cons, List.length_nil, List.length_take, List.length_drop, List.length_map] <;> omega) | fail) only [vop_move, vcallee_move, okKind_move, foot_move, vop_assign, vcallee_assign, okKind_assign, foot_assign, vop_load, vcallee_load, okKind_load, vop_store, vcallee_store, vop_nilCheck, vcallee_nilCheck, okKind_nilCheck, foot_nilCheck, vop_binOp, vcallee_binOp, vop_convert, vcallee_convert, okKind_convert, vop_fieldAddr, vcallee_fieldAddr, okKind_fieldAddr, foot_fieldAddr, vop_indexAddr, vcallee_indexAddr, okKind_indexAddr, foot_indexAddr, foot_load, foot_convert, vcallee_value, vcal_fn, ptrNo_ptr, ptrNo_ip, conv_pv, bin2_tmp, bin2_int, ownNo_pv, vnil_ptr, strip_pv, strip_ptr, strip_ip, strip_fn, optV_none, ev_tmp, ev_const, ev_func, ofConst_int, put_some, put_none, at_mk, fits_some, fits_none, ↓look_cons, ↓vlook_t, ↓vlook_f, guard_none, ↓vrun_nil, ↓vdr_nil, ↓code_region, ↓code_seq, ↓onNormal_normal, load_ptr, load_ip, vld_one, vldp_one, store_ptr, vst_one, blk_zero, set_zero, one_pv, faddr_ptr, vfap_some, iaddr_sl, vias_some, bin_int, int_add, int_mul, int_gtr, okc_nil, okc_none, okc_other, okc_one, conv_int, vci_int, evG_eq, ↓vrun_cons, ↓run1_some, ↓run2_none, ↓run2_some, ↓run3_some, ↓vcg_none, ↓vdr_cons, ↓dr1_some, ↓dr2_none, ↓dr3_some, ↓code_cond, ↓vtest_bool, ↓vbr_true, List.map_nil, List.getElem?_cons_zero, List.getElem?_cons_succ, List.length_cons, List.length_nil, List.map_cons, List.map_nil, List.cons_append, List.nil_append, List.append_nil, List.set_cons_zero, List.set_cons_succ, List.any_nil, List.any_cons, Option.map_some, ↓reduceIte, reduceCtorEq, Nat.reduceAdd, Nat.reduceLT, Nat.reduceBEq, Int.reduceLT, Int.reduceAdd, Int.reduceBEq, Int.toNat_natCast, Nat.zero_add, Nat.add_zero, true_and, and_true, and_self, and_false, or_false, or_self, Bool.not_false, Bool.or_false, Bool.and_true, Bool.true_and, Bool.and_false, Bool.or_self, Bool.and_self, cond_true, Bool.cond_self, beq_self_eq_true, Try.vt3, Try.vkind3, Try.vt5, Try.vkind5, Try.vt35, Try.velem35, Try.vfield44x0, Try.vfield44x1, wrap_i64_in, dec_t, hg]
    refine vc_cx (k := 0) (c := ⟨c.l, c.at_ + 1, a, hl⟩) (next0_v _ 256 (by omega) (by omega)) rfl rfl ?_
    rintro r c' ⟨z, rfl, hz⟩
    simp (config := { maxSteps := 2000000 }) (disch := first | omega | assumption | (simp only [List.length_cons, List.length_nil, Nat.zero_add, Nat.reduceAdd]; done) | (simp only [IntKind.wrap_i64]; omega) | (simp only [List.length_replicate, List.length_set, List.length_append, List.length_cons, List.length_nil, List.length_take, List.length_drop, List.length_map] <;> omega) | fail) only [vop_move, vcallee_move, vop_assign, vcallee_assign, vop_binOp, vcallee_binOp, bin2_tmp, strip_pv, optV_none, ev_tmp, put_some, at_mk, fits_some, ↓look_cons, ↓vlook_t, ↓vlook_f, guard_none, ↓vrun_nil, ↓code_ret, ↓onNormal_normal, ↓onNormal_ret, frz_pv, frz1_pv, allSome_nil, allSome_cons, res_one, vres_tmp, bin_int, int_add, int_rem, evG_eq, ↓vrun_cons, ↓run1_some, ↓run2_none, ↓run3_some, ↓runK_eq, ↓vpost_ret, vfin_some, vfin2_some, at_hp, frzHeap_one, frzH1_some, List.map_nil, List.map_cons, List.map_nil, List.set_cons_zero, Option.map_some, Nat.reduceLT, Nat.reduceBEq, Int.reduceLT, Int.reduceBEq, true_and, Bool.true_and, Bool.cond_self, beq_self_eq_true, wrap_i64_in, dec_t, cb, cc]
    obtain ⟨y, hy, hlt⟩ := tmod_lt' (256 * x + z) n h1
    have e : (256 * (x : Int) + (z : Int)) = ((256 * x + z : Nat) : Int) := by omega
    refine ⟨_, rfl, rfl, rfl, rfl, ⟨y, by rw [e, hy], hlt⟩, c', rfl⟩
  · simp (config := { maxSteps := 2000000 }) (disch := first | omega | assumption | (simp only [List.length_cons, List.length_nil, Nat.zero_add, Nat.reduceAdd]; done) | (simp only [IntKind.wrap_i64]; omega) | (simp only [List.length_replicate, List.length_set, List.length_append, List.length_cons, List.length_nil, List.length_take, List.length_drop, List.length_map] <;> omega) | fail) only [vop_move, vcallee_move, okKind_move, foot_move, vop_assign, vcallee_assign, vop_pick, vcallee_pick, okKind_pick, foot_pick, vop_load, vcallee_load, okKind_load, vop_nilCheck, vcallee_nilCheck, okKind_nilCheck, foot_nilCheck, vop_binOp, vcallee_binOp, okKind_binOp, foot_binOp, vop_fieldAddr, vcallee_fieldAddr, okKind_fieldAddr, foot_fieldAddr, foot_load, foot_call, okKind_len, vop_builtin, vcallee_builtin, ptrNo_ptr, bin2_tmp, bin2_int, vnil_ptr, vpick_bool, strip_pv, strip_ptr, strip_opt, vstr_true, vstr_false, optV_none, optV_some, pickV_bool, ev_tmp, ev_const, ofConst_int, ofConst_bool, put_some, at_mk, fits_some, ↓look_cons, ↓vlook_t, ↓vlook_f, guard_none, guard_some, vgof_bool, ↓vrun_nil, ↓vdr_nil, ↓code_region, ↓code_seq, ↓code_ret, ↓onNormal_normal, ↓onNormal_ret, frz_pv, frz1_pv, allSome_nil, allSome_cons, res_one, vres_tmp, load_ptr, vld_one, blk_zero, faddr_ptr, vfap_some, bin_int, int_lss, int_geq, len_sl, vlk_sl, bi_len, okc_nil, okc_none, okc_other, okc_one, evG_eq, ↓vrun_cons, ↓run1_some, ↓run2_none, ↓run3_some, ↓vdr_cons, ↓dr1_some, ↓dr2_none, ↓dr3_some, ↓code_cond, ↓vtest_bool, ↓vbr_true, ↓vpost_ret, vfin_some, vfin2_some, at_hp, frzHeap_one, frzH1_some, List.map_nil, List.getElem?_cons_zero, List.getElem?_cons_succ, List.map_cons, List.map_nil, List.cons_append, List.nil_append, List.any_nil, List.any_cons, Option.map_some, Option.bind_some, ↓reduceIte, reduceCtorEq, Nat.reduceAdd, Nat.reduceLT, Nat.reduceBEq, Int.reduceLT, Int.reduceAdd, Int.reduceBEq, Nat.zero_add, Nat.add_zero, true_and, and_true, and_self, and_false, or_false, or_self, Bool.not_true, Bool.not_false, Bool.or_false, Bool.and_true, Bool.true_and, Bool.and_false, Bool.or_self, Bool.and_self, b_beq_f, cond_true, Bool.cond_self, beq_self_eq_true, fz_len, Try.vt3, Try.vt35, Try.vkind35, Try.vfield44x0, Try.vfield44x1, dec_t, dec_f]
    exact ⟨_, rfl, rfl, rfl, rfl, ⟨0, rfl, h1⟩, c, rfl⟩

theorem draw_v (l : List UInt8) (most : Nat) (hm : 1 ≤ most) (h : most ≤ 1000000) (hl : l.length ≤ 9223372036854775807) : VCalls Try.prog 10 [.pv (.sl (fz encU l)), .int .i64 most] [] fun r h' => ∃ B, h' = [B] ∧ r = .ptr 0 0 ∧ B.live = true ∧ DV.nums.go (fun _ => false) B.cells = true ∧ ∃ c, B = cb c := by
  refine vcalls_keep (fn := Try.f10) Try.func10 rfl (by kernel_rfl) (by simp [Try.f10]) ?_
  simp (config := { maxSteps := 2000000 }) (disch := first | omega | assumption | (simp only [List.length_cons, List.length_nil, Nat.zero_add, Nat.reduceAdd]; done) | (simp only [IntKind.wrap_i64]; omega) | (simp only [List.length_replicate, List.length_set, List.length_append, List.length_cons, List.length_nil, List.length_take, List.length_drop, List.length_map] <;> omega) | fail) only [vop_move, vcallee_move, vop_assign, vcallee_assign, vop_binOp, vcallee_binOp, vop_builtin, vcallee_builtin, bin2_tmp, strip_pv, optV_none, ev_tmp, ev_const, put_some, at_mk, fits_some, ↓look_cons, ↓vlook_t, ↓vlook_f, guard_none, ↓vrun_nil, ↓code_region, ↓code_seq, ↓onNormal_normal, bin_int, int_gtr, len_sl, vlk_sl, bi_len, enum_nil, enum_cons, evG_eq, ↓vrun_cons, ↓run1_some, ↓run2_none, ↓run3_some, ↓code_cond, ↓vtest_bool, List.map_nil, List.toList_toArray, List.length_nil, List.map_cons, List.map_nil, Option.map_some, Nat.reduceAdd, Nat.reduceLT, Nat.reduceBEq, Int.reduceLT, Int.reduceAdd, Int.reduceBEq, Nat.zero_add, true_and, Bool.true_and, Bool.cond_self, beq_self_eq_true, fz_len, Try.vkind35, dec_t, Try.f10]
  refine vbr_split (fun hc => ?_) (fun hc => ?_) <;> simp only [decide_eq_true_eq, decide_eq_false_iff_not, Bool.or_eq_true, Bool.and_eq_true, Bool.or_eq_false_iff, Bool.and_eq_false_imp, Bool.not_eq_true', Bool.not_eq_false', beq_iff_eq, beq_eq_false_iff_ne, bne_iff_ne, bne_eq_false_iff_eq, ne_eq] at hc
  · have hx : (fz encU l)[0]?.map List.length = some 1 := fz_has encU l (by omega)
    have ht : (fz encU l).take most = fz encU (l.take most) := fz_take encU l most
    have hh : most ≤ (fz encU l).length := by rw [fz_len]; omega
    have h0 : (0 : Nat) ≤ most := by omega
    simp (config := { maxSteps := 2000000 }) (disch := first | omega | assumption | (simp only [List.length_cons, List.length_nil, Nat.zero_add, Nat.reduceAdd]; done) | (simp only [IntKind.wrap_i64]; omega) | (simp only [List.length_replicate, List.length_set, List.length_append, List.length_cons, List.length_nil, List.length_take, List.length_drop, List.length_map] <;> omega) | fail) only [vop_move, vcallee_move, vop_assign, vcallee_assign, vop_box, vcallee_box, vop_build, vcallee_build, vop_slice, vcallee_slice, strip_pv, strip_ptr, strip_agg, optV_none, ev_tmp, put_some, at_mk, fits_some, ↓look_cons, ↓vlook_t, ↓vlook_f, guard_none, ↓vrun_nil, ↓code_region, ↓code_seq, ↓code_ret, ↓onNormal_normal, res_one, vres_tmp, box_eq, allOne_nil, allOne_cons, one_pv, parts_nil, parts_cons, evG_eq, ↓vrun_cons, ↓run1_some, ↓run2_none, ↓run3_some, ↓keep_ret, vfinK_some, at_hp, slice_pv, slice_sl_hi, vslk_some, dcells, vbuild, vfill, V.splice, List.getElem?_cons_zero, List.length_cons, List.length_nil, List.cons_append, List.nil_append, List.take_zero, List.drop_succ_cons, List.drop_zero, Option.map_some, Option.map_none, ↓reduceIte, Nat.reduceAdd, Nat.reduceLT, Nat.reduceLeDiff, Nat.reduceBEq, Int.reduceLT, Int.reduceAdd, Int.reduceBEq, Int.toNat_natCast, Nat.zero_add, true_and, and_self, Bool.true_and, Bool.and_self, cond_true, Bool.cond_self, beq_self_eq_true, Try.velem35, Try.vplaces44, Try.vzero44, dec_t, ht]
    exact ⟨_, rfl, rfl, rfl, ⟨l.take most, 0, by omega, by rw [List.length_take]; omega⟩, rfl⟩
  · simp (config := { maxSteps := 2000000 }) (disch := first | omega | assumption | (simp only [List.length_cons, List.length_nil, Nat.zero_add, Nat.reduceAdd]; done) | (simp only [IntKind.wrap_i64]; omega) | (simp only [List.length_replicate, List.length_set, List.length_append, List.length_cons, List.length_nil, List.length_take, List.length_drop, List.length_map] <;> omega) | fail) only [vop_move, vcallee_move, vop_assign, vcallee_assign, vop_box, vcallee_box, vop_build, vcallee_build, strip_pv, strip_ptr, strip_agg, optV_none, ev_tmp, put_some, at_mk, fits_some, ↓look_cons, ↓vlook_t, ↓vlook_f, guard_none, ↓vrun_nil, ↓code_skip, ↓code_region, ↓code_seq, ↓code_ret, ↓onNormal_normal, res_one, vres_tmp, box_eq, allOne_nil, allOne_cons, one_pv, parts_nil, parts_cons, evG_eq, ↓vrun_cons, ↓run1_some, ↓run2_none, ↓run3_some, ↓keep_ret, vfinK_some, at_hp, dcells, vbuild, vfill, V.splice, List.getElem?_cons_zero, List.length_cons, List.length_nil, List.cons_append, List.nil_append, List.take_zero, List.drop_succ_cons, List.drop_zero, Option.map_some, ↓reduceIte, Nat.reduceAdd, Nat.reduceLT, Nat.reduceLeDiff, Nat.reduceBEq, Int.reduceLT, Int.reduceAdd, Int.reduceBEq, Nat.zero_add, true_and, and_self, Bool.true_and, Bool.and_self, cond_true, Bool.cond_self, beq_self_eq_true, Try.vplaces44, Try.vzero44, dec_t, dec_f]
    exact ⟨_, rfl, rfl, rfl, ⟨l, 0, by omega, by omega⟩, rfl⟩

theorem vc_draw {l : List UInt8} {most : Nat} {hp : Heap} {K : DV → Heap → Prop} (hm : 1 ≤ most) (h : most ≤ 1000000) (hl : l.length ≤ 9223372036854775807) (hK : ∀ c, K (.ptr hp.length 0) (hp ++ [cb c])) : VCalls Try.prog 10 [.pv (.sl (fz encU l)), .int .i64 most] hp K :=
  (VCalls.new (draw_v l most hm h hl) rfl).mono fun r h' ⟨B, e1, e2, _, _, c, e3⟩ => by subst e1 e2 e3; exact hK c

end Go.Proofs.Ytheibaofmffkkaa

namespace Go.Proofs.Ytheibaofmffkkaa
open Go.V Go
set_option maxRecDepth 100000
set_option pp.deepTerms true
set_option pp.deepTerms.threshold 100000
set_option pp.maxSteps 1000000
set_option pp.proofs false
set_option linter.unusedSimpArgs false

/-- Which have been asked for. -/
def seenL (n : Nat) (w : List Int) : List Bool := (List.range n).map fun s : Nat => decide ((s : Int) ∈ w)
theorem seenL_len (n : Nat) (w : List Int) : (seenL n w).length = n := by simp [seenL]
theorem seenL_get (n : Nat) (w : List Int) (s : Nat) (h : s < n) : (seenL n w).getD s false = decide ((s : Int) ∈ w) := by
  rw [List.getD_eq_getElem?_getD, seenL, List.getElem?_map, List.getElem?_range h]; rfl
theorem seenL_set (n : Nat) (w : List Int) (s : Nat) : (seenL n w).set s true = seenL n (w ++ [(s : Int)]) := by
  apply List.ext_getElem
  · simp [seenL]
  · intro k h1 h2
    rw [List.getElem_set]
    simp only [seenL, List.getElem_map, List.getElem_range, List.mem_append, List.mem_singleton]
    by_cases e : s = k
    · subst e; simp
    · rw [if_neg e]
      apply decide_eq_decide.2
      have : ¬ (k : Int) = s := by omega
      simp [this]
theorem seenL_nil (n : Nat) : seenL n [] = List.replicate n false := by
  apply List.ext_getElem
  · simp [seenL]
  · intro k h1 h2
    simp [seenL]
/-- What has been asked for. -/
structure W1 (n : Nat) where
  k : Nat
  hk : k ≤ 10
  c : C
  w : List Int
  nd : w.Nodup
  rng : ∀ a ∈ w, 0 ≤ a ∧ a < n
theorem W1.len {n : Nat} (s : W1 n) : s.w.length ≤ n := by
  have := nodup_sub_len s.w ((List.range n).map fun s : Nat => (s : Int)) s.nd fun a ha => by
    obtain ⟨r1, r2⟩ := s.rng a ha
    rw [List.mem_map]
    exact ⟨a.toNat, by rw [List.mem_range]; omega, by omega⟩
  simpa using this
theorem W1.ok {n : Nat} (s : W1 n) (h1 : 1 ≤ n) (h16 : n ≤ 16) : M.ok ⟨true, List.replicate n false, s.w⟩ := by
  refine ⟨fun e => absurd e (by simp), fun _ => ⟨by simp; omega, by simp; omega, List.mem_replicate.2 ⟨by omega, rfl⟩⟩, s.nd, fun a ha => ?_⟩
  obtain ⟨r1, r2⟩ := s.rng a ha
  exact ⟨r1, by simpa using r2, rep_getD _ _⟩

/-- What has been asked for, and those below i that have not. -/
def ask2 (w : List Int) (i : Nat) : List Int := w ++ ((List.range i).filter fun s : Nat => !decide ((s : Int) ∈ w)).map fun s : Nat => (s : Int)
theorem ask2_len (w : List Int) (i : Nat) : (ask2 w i).length ≤ w.length + i := by
  rw [ask2, List.length_append, List.length_map]
  have := List.length_filter_le (fun s : Nat => !decide ((s : Int) ∈ w)) (List.range i)
  rw [List.length_range] at this
  omega

set_option maxHeartbeats 8000000 in
theorem order_v (l : List UInt8) (hl : l.length ≤ 9223372036854775807) (p : Int) (hp : 0 ≤ p ∧ p ≤ 255) : VCalls Try.prog 4 [.pv (.sl (fz encU l)), .int .u8 p] [] (Ret (.bool true)) := by
  refine vcalls_drop (fn := Try.f4) Try.func4 rfl (by kernel_rfl) (by simp [Try.f4]) ?_
  simp (config := { maxSteps := 2000000 }) (disch := first | omega | assumption | (simp only [List.length_cons, List.length_nil, Nat.zero_add, Nat.reduceAdd]; done) | (simp only [IntKind.wrap_i64]; omega) | (simp only [List.length_replicate, List.length_set, List.length_append, List.length_cons, List.length_nil, List.length_take, List.length_drop, List.length_map] <;> omega) | fail) only [vop_assign, vcallee_assign, vcallee_value, vcal_fn, strip_pv, strip_fn, optV_none, ev_const, ev_func, ofConst_bool, put_some, at_mk, fits_some, guard_none, ↓vrun_nil, ↓code_region, ↓code_seq, ↓onNormal_normal, enum_nil, enum_cons, evG_eq, ↓vrun_cons, ↓run1_some, ↓run2_none, ↓run2_some, ↓run3_some, ↓vcg_none, List.map_nil, List.toList_toArray, List.length_nil, List.map_nil, List.append_nil, Nat.reduceAdd, Nat.reduceLT, Int.reduceLT, Int.reduceAdd, Nat.zero_add, true_and, Bool.true_and, Bool.cond_self, dec_t, Try.f4]
  refine vc_pure awake_v rfl ?_
  simp (config := { maxSteps := 2000000 }) (disch := first | omega | assumption | (simp only [List.length_cons, List.length_nil, Nat.zero_add, Nat.reduceAdd]; done) | (simp only [IntKind.wrap_i64]; omega) | (simp only [List.length_replicate, List.length_set, List.length_append, List.length_cons, List.length_nil, List.length_take, List.length_drop, List.length_map] <;> omega) | fail) only [vop_move, vcallee_move, vop_unOp, vcallee_unOp, vcallee_value, vcal_fn, strip_pv, strip_fn, optV_none, ev_tmp, ev_const, ev_func, ofConst_int, put_some, at_mk, fits_some, ↓look_cons, ↓vlook_t, ↓vlook_f, guard_none, ↓vrun_nil, ↓code_skip, ↓code_region, ↓code_seq, ↓onNormal_normal, un_not, evG_eq, ↓vrun_cons, ↓run1_some, ↓run2_none, ↓run2_some, ↓run3_some, ↓runK_eq, ↓vcg_none, ↓code_cond, ↓vtest_bool, ↓vbr_false, List.map_nil, List.map_cons, List.map_nil, List.nil_append, List.append_nil, Option.map_some, Nat.reduceLT, Nat.reduceBEq, Int.reduceLT, Int.reduceBEq, true_and, Bool.not_true, Bool.true_and, Bool.cond_self, beq_self_eq_true, dec_t]
  refine vc_draw (l := l) (most := 200) (by omega) (by omega) hl fun c0 => ?_
  obtain ⟨n0, hn0, h0, h1⟩ : ∃ n : Nat, 1 + p.tmod 64 = n ∧ 1 ≤ n ∧ n ≤ 64 := ⟨(1 + p % 64).toNat, by rw [tmod_n hp.1]; omega, by omega, by omega⟩
  simp (config := { maxSteps := 2000000 }) (disch := first | omega | assumption | (simp only [List.length_cons, List.length_nil, Nat.zero_add, Nat.reduceAdd]; done) | (simp only [IntKind.wrap_i64]; omega) | (simp only [List.length_replicate, List.length_set, List.length_append, List.length_cons, List.length_nil, List.length_take, List.length_drop, List.length_map] <;> omega) | fail) only [vop_move, vcallee_move, vop_assign, vcallee_assign, vop_binOp, vcallee_binOp, vop_convert, vcallee_convert, vcallee_value, vcal_fn, conv_pv, bin2_tmp, bin2_int, strip_pv, strip_ptr, strip_fn, optV_none, ev_tmp, ev_const, ev_func, ofConst_int, put_some, at_mk, fits_some, ↓look_cons, ↓vlook_t, ↓vlook_f, guard_none, ↓vrun_nil, ↓code_region, ↓code_seq, ↓onNormal_normal, bin_int, int_add, int_rem, conv_int, vci_int, evG_eq, ↓vrun_cons, ↓run1_some, ↓run2_none, ↓run2_some, ↓run3_some, ↓runK_eq, ↓vcg_none, List.map_nil, List.length_nil, List.map_cons, List.map_nil, List.nil_append, List.append_nil, Option.map_some, Nat.reduceLT, Nat.reduceBEq, Int.reduceLT, Int.reduceBEq, true_and, Bool.true_and, Bool.cond_self, beq_self_eq_true, Try.vkind3, Try.vkind5, wrap_i64_in, dec_t, hn0]
  refine vc_pure (new_v n0 h0 h1) rfl ?_
  obtain ⟨n, hn, hn1, hn16⟩ : ∃ n, (n0 + 3) / 4 = n ∧ 1 ≤ n ∧ n ≤ 16 := ⟨_, rfl, by omega, by omega⟩
  rw [hn]
  simp (config := { maxSteps := 2000000 }) (disch := first | omega | assumption | (simp only [List.length_cons, List.length_nil, Nat.zero_add, Nat.reduceAdd]; done) | (simp only [IntKind.wrap_i64]; omega) | (simp only [List.length_replicate, List.length_set, List.length_append, List.length_cons, List.length_nil, List.length_take, List.length_drop, List.length_map] <;> omega) | fail) only [vop_move, vcallee_move, vop_assign, vcallee_assign, vop_alloc, vcallee_alloc, vop_load, vcallee_load, vop_store, vcallee_store, vop_makeSlice, vcallee_makeSlice, vop_fieldAddr, vcallee_fieldAddr, vop_extract, vcallee_extract, vop_builtin, vcallee_builtin, vcallee_value, vcal_fn, strip_pv, strip_ptr, strip_own, strip_agg, strip_tup, strip_fn, optV_none, ev_tmp, ev_const, ev_func, ofConst_int, ofConst_slice, put_some, put_none, at_mk, fits_some, fits_none, ↓look_cons, ↓vlook_t, ↓vlook_f, guard_none, ↓vrun_nil, ↓code_region, ↓code_seq, ↓onNormal_normal, load_ptr, vld_one, store_ptr, vst_agg, blk_zero, blk_succ, set_zero, set_succ, alloc_eq, val1_some, allOne_nil, allOne_cons, one_pv, faddr_ptr, vfap_some, ext_tup, len_sl, vlk_sl, bi_len, evG_eq, ↓vrun_cons, ↓run1_some, ↓run2_none, ↓run2_some, ↓run3_some, ↓runK_eq, ↓vcg_none, List.map_nil, vmake, V.splice, List.getElem?_cons_zero, List.getElem?_cons_succ, List.length_cons, List.length_nil, List.map_cons, List.map_nil, List.cons_append, List.nil_append, List.append_nil, List.take_zero, List.drop_succ_cons, List.drop_nil, Option.map_some, ↓reduceIte, reduceCtorEq, Nat.reduceAdd, Nat.reduceLT, Nat.reduceBEq, Int.reduceLT, Int.reduceAdd, Int.reduceBEq, Int.toNat_natCast, Nat.zero_add, true_and, and_true, and_self, Bool.and_true, Bool.true_and, Bool.and_self, cond_true, Bool.cond_self, beq_self_eq_true, Nat.le_refl, make_ite, fz_len, mkB, List.length_replicate, Try.vzero4, Try.bytes4, Try.vt23, Try.velem23, Try.vkind23, Try.vt26, Try.vfield26x1, Try.vzero26, dec_t, M.d, make_ite]
  refine vc_cx (k := 0) (c := c0) (next_v c0 10 (by omega) (by omega)) rfl rfl ?_
  rintro r c1 ⟨k0, rfl, hk0⟩
  simp (config := { maxSteps := 2000000 }) (disch := first | omega | assumption | (simp only [List.length_cons, List.length_nil, Nat.zero_add, Nat.reduceAdd]; done) | (simp only [IntKind.wrap_i64]; omega) | (simp only [List.length_replicate, List.length_set, List.length_append, List.length_cons, List.length_nil, List.length_take, List.length_drop, List.length_map] <;> omega) | fail) only [vop_assign, vcallee_assign, strip_pv, optV_none, ev_tmp, put_some, at_mk, fits_some, ↓look_cons, ↓vlook_t, guard_none, ↓vrun_nil, ↓code_block, ↓code_loop, ↓onNormal_normal, evG_eq, ↓vrun_cons, ↓run1_some, ↓run2_none, ↓run3_some, ↓runK_eq, List.set_cons_zero, Nat.reduceLT, Int.reduceLT, true_and, Bool.true_and, Bool.cond_self, beq_self_eq_true, dec_t]
  refine VLoop.nilOwn 9 3 1 rfl ?_
  rw [← seenL_nil n]
  refine vloopW (fun s : W1 n => ⟨142, 0, [(11, .int .i64 s.k), (10, .own 2 1 0 n), (9, .own 3 1 0 s.w.length), (8, .int .i64 n), (7, .int .i64 0), (6, .ptr 1 0), (5, .ptr 0 0)], [cb s.c, ⟨26, true, M.d ⟨true, seenL n [], s.w⟩⟩, ⟨4, true, cells encB (seenL n s.w)⟩, ⟨3, true, cells encI s.w⟩]⟩) (fun s => s.k) ⟨k0, by omega, c1, [], List.nodup_nil, by simp⟩ (.inl (by refine ⟨rfl, rfl, by simp, ?_, ?_, .inr ⟨?_, ?_⟩⟩ <;> (repeat' apply And.intro) <;> first | rfl | trivial | (intro _; first | rfl | apply cells_refs))) ?_
  rintro ⟨k, hk10, c2, w, hnd, hrng⟩
  dsimp only
  have hwl := W1.len ⟨k, hk10, c2, w, hnd, hrng⟩
  have hok := W1.ok ⟨k, hk10, c2, w, hnd, hrng⟩ hn1 hn16
  rw [← seenL_nil] at hok
  dsimp only at hwl hok
  simp (config := { maxSteps := 2000000 }) (disch := first | omega | assumption | (simp only [List.length_cons, List.length_nil, Nat.zero_add, Nat.reduceAdd]; done) | (simp only [IntKind.wrap_i64]; omega) | (simp only [List.length_replicate, List.length_set, List.length_append, List.length_cons, List.length_nil, List.length_take, List.length_drop, List.length_map] <;> omega) | fail) only [vop_move, vcallee_move, vop_binOp, vcallee_binOp, bin2_int, strip_pv, optV_none, ev_tmp, ev_const, ofConst_int, put_some, at_mk, fits_some, ↓look_cons, ↓vlook_t, guard_none, ↓vrun_nil, ↓code_region, ↓code_seq, ↓onNormal_normal, bin_int, int_gtr, evG_eq, ↓vrun_cons, ↓run1_some, ↓run2_none, ↓run3_some, ↓code_cond, ↓vtest_bool, Option.map_some, Nat.reduceLT, Int.reduceLT, true_and, Bool.true_and, Bool.cond_self, beq_self_eq_true, dec_t]
  refine vbr_split (fun hk => ?_) (fun hk => ?_) <;> simp only [decide_eq_true_eq, decide_eq_false_iff_not, Bool.or_eq_true, Bool.and_eq_true, Bool.or_eq_false_iff, Bool.and_eq_false_imp, Bool.not_eq_true', Bool.not_eq_false', beq_iff_eq, beq_eq_false_iff_ne, bne_iff_ne, bne_eq_false_iff_eq, ne_eq] at hk
  · simp (config := { maxSteps := 2000000 }) (disch := first | omega | assumption | (simp only [List.length_cons, List.length_nil, Nat.zero_add, Nat.reduceAdd]; done) | (simp only [IntKind.wrap_i64]; omega) | (simp only [List.length_replicate, List.length_set, List.length_append, List.length_cons, List.length_nil, List.length_take, List.length_drop, List.length_map] <;> omega) | fail) only [vop_move, vcallee_move, vcallee_value, vcal_fn, strip_pv, strip_ptr, strip_fn, optV_none, ev_tmp, ev_func, put_some, at_mk, fits_some, ↓look_cons, ↓vlook_t, ↓vlook_f, guard_none, ↓code_skip, ↓code_region, ↓code_seq, ↓code_block, ↓onNormal_normal, evG_eq, ↓vrun_cons, ↓run1_some, ↓run2_none, ↓run2_some, ↓run3_some, ↓vcg_none, List.map_nil, List.map_cons, List.map_nil, List.nil_append, List.append_nil, Nat.reduceLT, Nat.reduceBEq, Int.reduceLT, Int.reduceBEq, true_and, Bool.true_and, Bool.cond_self, beq_self_eq_true, dec_t, M.d]
    refine vc_cx (k := 0) (c := c2) (next_v c2 n (by omega) (by omega)) rfl rfl ?_
    rintro r c3 ⟨x, rfl, hx⟩
    have hask := ask_v _ hok rfl (by dsimp only; omega) (x : Int) (by omega) (by dsimp only; rw [seenL_len]; omega)
    have hsg := cellsB_get (seenL n w) x (by rw [seenL_len]; exact hx)
    rw [seenL_get n w x hx] at hsg
    unfold M.ask at hask
    dsimp only at hask
    rw [Int.toNat_natCast, seenL_get n [] x hx] at hask
    simp (config := { maxSteps := 2000000 }) (disch := first | omega | assumption | (simp only [List.length_cons, List.length_nil, Nat.zero_add, Nat.reduceAdd]; done) | (simp only [IntKind.wrap_i64]; omega) | (simp only [List.length_replicate, List.length_set, List.length_append, List.length_cons, List.length_nil, List.length_take, List.length_drop, List.length_map] <;> omega) | fail) only [vop_move, vcallee_move, vop_assign, vcallee_assign, vop_load, vcallee_load, vcallee_value, vcal_fn, strip_pv, strip_ptr, strip_agg, strip_fn, optV_none, ev_tmp, ev_func, put_some, at_mk, fits_some, ↓look_cons, ↓vlook_t, ↓vlook_f, guard_none, ↓vrun_nil, ↓code_region, ↓code_seq, ↓onNormal_normal, load_ptr, vld_agg, blk_zero, blk_succ, evG_eq, ↓vrun_cons, ↓run1_some, ↓run2_none, ↓run2_some, ↓run3_some, ↓runK_eq, ↓vcg_none, List.map_nil, List.length_cons, List.length_nil, List.map_cons, List.map_nil, List.nil_append, List.append_nil, List.take_succ_cons, List.take_nil, List.drop_zero, List.set_cons_zero, Option.map_some, ↓reduceIte, Nat.reduceAdd, Nat.reduceLT, Nat.reduceBEq, Int.reduceLT, Int.reduceAdd, Int.reduceBEq, Nat.zero_add, true_and, Bool.true_and, Bool.cond_self, beq_self_eq_true, Nat.le_refl, Try.vt26, dec_t]
    by_cases hm : (x : Int) ∈ w
    · rw [if_neg (fun e => e.2 hm)] at hask
      refine vc_pure hask rfl ?_
      simp (config := { maxSteps := 2000000 }) (disch := first | omega | assumption | (simp only [List.length_cons, List.length_nil, Nat.zero_add, Nat.reduceAdd]; done) | (simp only [IntKind.wrap_i64]; omega) | (simp only [List.length_replicate, List.length_set, List.length_append, List.length_cons, List.length_nil, List.length_take, List.length_drop, List.length_map] <;> omega) | fail) only [vop_move, vcallee_move, vop_assign, vcallee_assign, vop_alloc, vcallee_alloc, vop_load, vcallee_load, vop_store, vcallee_store, vop_binOp, vcallee_binOp, vop_unOp, vcallee_unOp, vop_indexAddr, vcallee_indexAddr, vop_extract, vcallee_extract, bin2_int, strip_pv, strip_ptr, strip_own, strip_agg, strip_tup, optV_none, ev_tmp, ev_const, ofConst_int, put_some, put_none, at_mk, fits_some, fits_none, ↓look_cons, ↓vlook_t, ↓vlook_f, guard_none, ↓vrun_nil, ↓code_skip, ↓code_region, ↓code_seq, ↓onNormal_normal, ↓onBlock_normal, load_ptr, vld_one, vld_agg, store_ptr, vst_agg, blk_zero, blk_succ, set_zero, set_succ, alloc_eq, val1_some, allOne_nil, allOne_cons, one_pv, iaddr_own, viao_some, bin_int, int_sub, int_neq, un_not, ext_tup, evG_eq, ↓vrun_cons, ↓run1_some, ↓run2_none, ↓run3_some, ↓runK_eq, ↓code_cond, ↓vtest_bool, ↓vbr_false, V.splice, List.getElem?_cons_zero, List.getElem?_cons_succ, List.length_cons, List.length_nil, List.cons_append, List.nil_append, List.append_nil, List.take_succ_cons, List.take_zero, List.take_nil, List.drop_succ_cons, List.drop_zero, List.drop_nil, Option.map_some, ↓reduceIte, Nat.reduceAdd, Nat.reduceLT, Nat.reduceBEq, Int.reduceLT, Int.reduceAdd, Int.reduceBEq, Int.toNat_natCast, Nat.zero_add, Nat.mul_one, true_and, and_self, Bool.not_true, Bool.true_and, Bool.and_self, cond_true, Bool.cond_self, beq_self_eq_true, Nat.le_refl, Try.vt4, Try.velem23, Try.vt26, Try.vzero26, wrap_i64_in, dec_t, int_bne_f, M.d, hsg, hm]
      refine ⟨⟨k - 1, by omega, c3, w, hnd, hrng⟩, by show k - 1 < k; omega, ?_⟩
      dsimp only
      rw [show ((k - 1 : Nat) : Int) = (k : Int) - 1 by omega]
      exact (by refine gc_of (keep := [0, 1, 2, 3]) rfl rfl rfl (by decide) ?_ ?_ <;> (repeat' apply And.intro) <;> first | trivial | rfl | exact ⟨_, rfl, rfl, rfl, .inl ⟨rfl, rfl⟩⟩ | exact ⟨_, rfl, rfl, rfl, .inl ⟨cells_nums _ _ _, rfl⟩⟩ | exact ⟨_, rfl, rfl, rfl, .inl ⟨pvs_nums _ _, rfl⟩⟩ | exact ⟨_, rfl, rfl, rfl, .inr ⟨rfl, rfl⟩⟩)
    · rw [if_pos ⟨by simp, hm⟩] at hask
      refine vc_pure hask rfl ?_
      have hb : (w.length + 1) * 8 ≤ 140737488355328 := by omega
      have ht : (cells encI w).take w.length = cells encI w := by rw [List.take_of_length_le]; rw [cellsI_len]; exact Nat.le_refl _
      have ha : (cells encI w ++ [.pv (.lit (.int .i64 x))] : List DV) = cells encI (w ++ [(x : Int)]) := (cells_app encI w [(x : Int)]).symm
      simp (config := { maxSteps := 2000000 }) (disch := first | omega | assumption | (simp only [List.length_cons, List.length_nil, Nat.zero_add, Nat.reduceAdd]; done) | (simp only [IntKind.wrap_i64]; omega) | (simp only [List.length_replicate, List.length_set, List.length_append, List.length_cons, List.length_nil, List.length_take, List.length_drop, List.length_map] <;> omega) | fail) only [vop_move, vcallee_move, vop_assign, vcallee_assign, vop_alloc, vcallee_alloc, vop_buildSlice, vcallee_buildSlice, vop_load, vcallee_load, vop_store, vcallee_store, vop_binOp, vcallee_binOp, vop_unOp, vcallee_unOp, vop_indexAddr, vcallee_indexAddr, vop_extract, vcallee_extract, vop_builtin, vcallee_builtin, bin2_int, strip_pv, strip_ptr, strip_own, strip_agg, strip_tup, optV_none, ev_tmp, ev_const, ofConst_int, ofConst_bool, put_some, put_none, at_mk, fits_some, fits_none, ↓look_cons, ↓vlook_t, ↓vlook_f, guard_none, ↓vrun_nil, ↓code_skip, ↓code_region, ↓code_seq, ↓onNormal_normal, ↓onBlock_normal, load_ptr, vld_one, vld_agg, store_ptr, vst_one, vst_agg, blk_zero, blk_succ, set_zero, set_succ, alloc_eq, val1_some, allOne_nil, allOne_cons, one_pv, iaddr_own, viao_some, bin_int, int_sub, int_neq, un_not, ext_tup, bi_append, ap2_own, parts_nil, parts_cons, evG_eq, ↓vrun_cons, ↓run1_some, ↓run2_none, ↓run3_some, ↓runK_eq, ↓code_cond, ↓vtest_bool, ↓vbr_true, ↓vbr_false, List.map_nil, dcells, vfill, vbuildSlice, V.mk, vsrc, vbase, vappend, V.kill, V.splice, List.getElem?_cons_zero, List.getElem?_cons_succ, List.length_cons, List.length_nil, List.map_cons, List.map_nil, List.cons_append, List.nil_append, List.append_nil, List.take_succ_cons, List.take_zero, List.take_nil, List.drop_succ_cons, List.drop_zero, List.drop_nil, List.set_cons_zero, List.set_cons_succ, Option.map_some, ↓reduceIte, Nat.reduceAdd, Nat.reduceLT, Nat.reduceLeDiff, Nat.reduceBEq, Int.reduceLT, Int.reduceAdd, Int.reduceBEq, Int.toNat_natCast, Nat.zero_add, Nat.mul_one, decide_false, true_and, and_self, Bool.not_false, Bool.true_and, Bool.and_self, cond_true, Bool.cond_self, beq_self_eq_true, Nat.le_refl, cellsI_len, cellsB_len, cellsB_set, Try.vzero3, Try.bytes3, Try.vt4, Try.velem23, Try.velem24, Try.notInt24, Try.vt26, Try.vzero26, wrap_i64_in, dec_t, int_bne_f, M.d, hsg, hm, cellsI_len, hb, ht, ha, cellsB_set, cellsB_len, seenL_len, hx, seenL_set]
      refine ⟨⟨k - 1, by omega, c3, w ++ [(x : Int)], ?_, ?_⟩, by show k - 1 < k; omega, ?_⟩
      · rw [List.nodup_append]
        exact ⟨hnd, by simp, by intro a ha b hb e; simp at hb; subst hb e; exact hm ha⟩
      · intro a ha
        rcases List.mem_append.1 ha with ha | ha
        · exact hrng a ha
        · simp at ha; omega
      dsimp only
      rw [show ((k - 1 : Nat) : Int) = (k : Int) - 1 by omega, List.length_append]
      exact (by refine gc_of (keep := [0, 1, 2, 6]) rfl rfl rfl (by decide) ?_ ?_ <;> (repeat' apply And.intro) <;> first | trivial | rfl | exact ⟨_, rfl, rfl, rfl, .inl ⟨rfl, rfl⟩⟩ | exact ⟨_, rfl, rfl, rfl, .inl ⟨cells_nums _ _ _, rfl⟩⟩ | exact ⟨_, rfl, rfl, rfl, .inl ⟨pvs_nums _ _, rfl⟩⟩ | exact ⟨_, rfl, rfl, rfl, .inr ⟨rfl, rfl⟩⟩)
  · have hk0' : k = 0 := by omega
    subst hk0'
    simp (config := { maxSteps := 2000000 }) (disch := first | omega | assumption | (simp only [List.length_cons, List.length_nil, Nat.zero_add, Nat.reduceAdd]; done) | (simp only [IntKind.wrap_i64]; omega) | (simp only [List.length_replicate, List.length_set, List.length_append, List.length_cons, List.length_nil, List.length_take, List.length_drop, List.length_map] <;> omega) | fail) only [vop_assign, vcallee_assign, strip_pv, optV_none, ev_const, ofConst_int, put_some, at_mk, fits_some, guard_none, ↓vrun_nil, ↓code_region, ↓code_seq, ↓code_block, ↓code_loop, ↓code_exit, ↓onNormal_normal, ↓onNormal_exit, ↓onBlock_exit, evG_eq, ↓vrun_cons, ↓run1_some, ↓run2_none, ↓run3_some, ↓reduceIte, Nat.reduceLT, Int.reduceLT, true_and, Bool.true_and, Bool.cond_self, dec_t, dec_f]
    refine vloopW (fun s : {i : Nat // i ≤ n} => ⟨142, 0, [(15, .int .i64 s.1), (10, .own 2 1 0 n), (9, .own 3 1 0 (ask2 w s.1).length), (8, .int .i64 n), (7, .int .i64 0), (6, .ptr 1 0), (5, .ptr 0 0)], [cb c2, ⟨26, true, M.d ⟨true, seenL n [], w⟩⟩, ⟨4, true, cells encB (seenL n w)⟩, ⟨3, true, cells encI (ask2 w s.1)⟩]⟩) (fun s => n - s.1) ⟨0, by omega⟩ (.inl ?_) ?_
    · have e0 : ask2 w 0 = w := by simp [ask2]
      dsimp only
      rw [e0]
      exact (by refine ⟨rfl, rfl, by simp, ?_, ?_, .inr ⟨?_, ?_⟩⟩ <;> (repeat' apply And.intro) <;> first | rfl | trivial | (intro _; first | rfl | apply cells_refs))
    rintro ⟨i, hi⟩
    dsimp only
    have h2l := ask2_len w i
    simp (config := { maxSteps := 2000000 }) (disch := first | omega | assumption | (simp only [List.length_cons, List.length_nil, Nat.zero_add, Nat.reduceAdd]; done) | (simp only [IntKind.wrap_i64]; omega) | (simp only [List.length_replicate, List.length_set, List.length_append, List.length_cons, List.length_nil, List.length_take, List.length_drop, List.length_map] <;> omega) | fail) only [vop_move, vcallee_move, vop_binOp, vcallee_binOp, bin2_tmp, strip_pv, optV_none, ev_tmp, put_some, at_mk, fits_some, ↓look_cons, ↓vlook_t, ↓vlook_f, guard_none, ↓vrun_nil, ↓code_region, ↓code_seq, ↓onNormal_normal, bin_int, int_lss, evG_eq, ↓vrun_cons, ↓run1_some, ↓run2_none, ↓run3_some, ↓code_cond, ↓vtest_bool, Option.map_some, Nat.reduceLT, Nat.reduceBEq, Int.reduceLT, Int.reduceBEq, true_and, Bool.true_and, Bool.cond_self, beq_self_eq_true, dec_t]
    refine vbr_split (fun hc => ?_) (fun hc => ?_) <;> simp only [decide_eq_true_eq, decide_eq_false_iff_not, Bool.or_eq_true, Bool.and_eq_true, Bool.or_eq_false_iff, Bool.and_eq_false_imp, Bool.not_eq_true', Bool.not_eq_false', beq_iff_eq, beq_eq_false_iff_ne, bne_iff_ne, bne_eq_false_iff_eq, ne_eq] at hc
    · have hlt : i < n := by omega
      have hsg := cellsB_get (seenL n w) i (by rw [seenL_len]; exact hlt)
      rw [seenL_get n w i hlt] at hsg
      simp (config := { maxSteps := 2000000 }) (disch := first | omega | assumption | (simp only [List.length_cons, List.length_nil, Nat.zero_add, Nat.reduceAdd]; done) | (simp only [IntKind.wrap_i64]; omega) | (simp only [List.length_replicate, List.length_set, List.length_append, List.length_cons, List.length_nil, List.length_take, List.length_drop, List.length_map] <;> omega) | fail) only [vop_move, vcallee_move, vop_load, vcallee_load, vop_unOp, vcallee_unOp, vop_indexAddr, vcallee_indexAddr, strip_pv, strip_ptr, strip_own, optV_none, ev_tmp, put_some, at_mk, fits_some, ↓look_cons, ↓vlook_t, ↓vlook_f, guard_none, ↓vrun_nil, ↓code_skip, ↓code_region, ↓code_seq, ↓code_block, ↓onNormal_normal, load_ptr, vld_one, blk_zero, blk_succ, iaddr_own, viao_some, un_not, evG_eq, ↓vrun_cons, ↓run1_some, ↓run2_none, ↓run3_some, ↓code_cond, ↓vtest_bool, Option.map_some, Nat.reduceLT, Nat.reduceBEq, Int.reduceLT, Int.reduceBEq, Int.toNat_natCast, Nat.zero_add, Nat.mul_one, true_and, Bool.true_and, Bool.cond_self, beq_self_eq_true, Try.vt4, Try.velem23, dec_t, hsg]
      by_cases hm : (i : Int) ∈ w
      · simp (config := { maxSteps := 2000000 }) (disch := first | omega | assumption | (simp only [List.length_cons, List.length_nil, Nat.zero_add, Nat.reduceAdd]; done) | (simp only [IntKind.wrap_i64]; omega) | (simp only [List.length_replicate, List.length_set, List.length_append, List.length_cons, List.length_nil, List.length_take, List.length_drop, List.length_map] <;> omega) | fail) only [vop_move, vcallee_move, vop_assign, vcallee_assign, vop_binOp, vcallee_binOp, bin2_int, strip_pv, optV_none, ev_tmp, ev_const, ofConst_int, put_some, at_mk, fits_some, ↓look_cons, ↓vlook_t, ↓vlook_f, guard_none, ↓vrun_nil, ↓code_skip, ↓code_region, ↓onNormal_normal, ↓onBlock_normal, bin_int, int_add, evG_eq, ↓vrun_cons, ↓run1_some, ↓run2_none, ↓run3_some, ↓vbr_false, Option.map_some, Nat.reduceLT, Nat.reduceBEq, Int.reduceLT, Int.reduceBEq, true_and, Bool.not_true, Bool.true_and, Bool.cond_self, beq_self_eq_true, wrap_i64_in, dec_t, hm]
        refine ⟨⟨i + 1, by omega⟩, by show n - (i + 1) < n - i; omega, .inl ?_⟩
        have e1 : ask2 w (i + 1) = ask2 w i := by simp [ask2, List.range_succ, List.filter_append, hm]
        dsimp only
        rw [e1]
        exact (by refine ⟨rfl, rfl, by simp, ?_, ?_, .inr ⟨?_, ?_⟩⟩ <;> (repeat' apply And.intro) <;> first | rfl | trivial | (intro _; first | rfl | apply cells_refs))
      · have hb : ((ask2 w i).length + 1) * 8 ≤ 140737488355328 := by omega
        have ht : (cells encI (ask2 w i)).take (ask2 w i).length = cells encI (ask2 w i) := by rw [List.take_of_length_le]; rw [cellsI_len]; exact Nat.le_refl _
        have e1 : ask2 w (i + 1) = ask2 w i ++ [(i : Int)] := by simp [ask2, List.range_succ, List.filter_append, hm]
        have ha : (cells encI (ask2 w i) ++ [.pv (.lit (.int .i64 i))] : List DV) = cells encI (ask2 w (i + 1)) := by rw [e1]; exact (cells_app encI _ [(i : Int)]).symm
        have hl1 : (ask2 w (i + 1)).length = (ask2 w i).length + 1 := by rw [e1, List.length_append]; rfl
        simp (config := { maxSteps := 2000000 }) (disch := first | omega | assumption | (simp only [List.length_cons, List.length_nil, Nat.zero_add, Nat.reduceAdd]; done) | (simp only [IntKind.wrap_i64]; omega) | (simp only [List.length_replicate, List.length_set, List.length_append, List.length_cons, List.length_nil, List.length_take, List.length_drop, List.length_map] <;> omega) | fail) only [vop_move, vcallee_move, vop_assign, vcallee_assign, vop_buildSlice, vcallee_buildSlice, vop_binOp, vcallee_binOp, vop_builtin, vcallee_builtin, bin2_int, strip_pv, strip_own, optV_none, ev_tmp, ev_const, ofConst_int, put_some, at_mk, fits_some, ↓look_cons, ↓vlook_t, ↓vlook_f, guard_none, ↓vrun_nil, ↓code_region, ↓onNormal_normal, ↓onBlock_normal, blk_zero, blk_succ, allOne_nil, allOne_cons, one_pv, bin_int, int_add, bi_append, ap2_own, parts_nil, parts_cons, evG_eq, ↓vrun_cons, ↓run1_some, ↓run2_none, ↓run3_some, ↓vbr_true, List.map_nil, dcells, vfill, vbuildSlice, V.mk, vsrc, vbase, vappend, V.kill, V.splice, List.getElem?_cons_zero, List.getElem?_cons_succ, List.length_cons, List.length_nil, List.map_cons, List.map_nil, List.cons_append, List.nil_append, List.append_nil, List.take_succ_cons, List.take_zero, List.take_nil, List.drop_succ_cons, List.drop_zero, List.drop_nil, List.set_cons_zero, List.set_cons_succ, Option.map_some, ↓reduceIte, Nat.reduceAdd, Nat.reduceLT, Nat.reduceLeDiff, Nat.reduceBEq, Int.reduceLT, Int.reduceAdd, Int.reduceBEq, Nat.zero_add, Nat.mul_one, decide_false, true_and, and_self, Bool.not_false, Bool.true_and, Bool.and_self, cond_true, Bool.cond_self, beq_self_eq_true, Nat.le_refl, cellsI_len, Try.vzero3, Try.bytes3, Try.velem24, Try.notInt24, wrap_i64_in, dec_t, hm, cellsI_len, hb, ht, ha]
        refine ⟨⟨i + 1, by omega⟩, by show n - (i + 1) < n - i; omega, ?_⟩
        dsimp only
        rw [hl1]
        exact (by refine gc_of (keep := [0, 1, 2, 5]) rfl rfl rfl (by decide) ?_ ?_ <;> (repeat' apply And.intro) <;> first | trivial | rfl | exact ⟨_, rfl, rfl, rfl, .inl ⟨rfl, rfl⟩⟩ | exact ⟨_, rfl, rfl, rfl, .inl ⟨cells_nums _ _ _, rfl⟩⟩ | exact ⟨_, rfl, rfl, rfl, .inl ⟨pvs_nums _ _, rfl⟩⟩ | exact ⟨_, rfl, rfl, rfl, .inr ⟨rfl, rfl⟩⟩)
    · obtain rfl : i = n := by omega
      have ho : Ord i w.length (ask2 w i) := ord_mk i w hnd hrng
      have hlen := ho.len
      generalize hA : ask2 w i = A at ho hlen
      have e0 : (⟨true, seenL i [], w⟩ : M) = stp i w.length A 0 := by
        rw [stp_lt (by omega), dn_zero, seenL_nil, List.drop_zero]
        congr 1
        rw [← hA, ask2, List.take_left]
      rw [e0]
      simp (config := { maxSteps := 2000000 }) (disch := first | omega | assumption | (simp only [List.length_cons, List.length_nil, Nat.zero_add, Nat.reduceAdd]; done) | (simp only [IntKind.wrap_i64]; omega) | (simp only [List.length_replicate, List.length_set, List.length_append, List.length_cons, List.length_nil, List.length_take, List.length_drop, List.length_map] <;> omega) | fail) only [vop_assign, vcallee_assign, strip_pv, optV_none, ev_const, ofConst_int, put_some, at_mk, fits_some, guard_none, ↓vrun_nil, ↓code_region, ↓code_seq, ↓code_block, ↓code_loop, ↓code_exit, ↓onNormal_normal, ↓onNormal_exit, ↓onBlock_exit, evG_eq, ↓vrun_cons, ↓run1_some, ↓run2_none, ↓run3_some, ↓reduceIte, Nat.reduceLT, Int.reduceLT, true_and, Bool.true_and, Bool.cond_self, dec_t, dec_f]
      refine vloopW (fun s : {j : Nat // j ≤ i} => ⟨142, 0, [(16, .int .i64 s.1), (9, .own 3 1 0 A.length), (8, .int .i64 i), (7, .int .i64 0), (6, .ptr 1 0)], [cb c2, ⟨26, true, (stp i w.length A s.1).d⟩, ⟨4, true, cells encB (seenL i w)⟩, ⟨3, true, cells encI A⟩]⟩) (fun s => i - s.1) ⟨0, by omega⟩ (.inl (by refine ⟨rfl, rfl, by simp, ?_, ?_, .inr ⟨?_, ?_⟩⟩ <;> (repeat' apply And.intro) <;> first | rfl | trivial | (intro _; first | rfl | apply cells_refs))) ?_
      rintro ⟨j, hj⟩
      dsimp only
      have hsok := stp_ok ho hn1 hn16 j
      have hsw : (stp i w.length A j).wait.length ≤ 1000 := stp_wait j (by omega)
      have hnx := mnext_v _ hsok hsw
      simp (config := { maxSteps := 2000000 }) (disch := first | omega | assumption | (simp only [List.length_cons, List.length_nil, Nat.zero_add, Nat.reduceAdd]; done) | (simp only [IntKind.wrap_i64]; omega) | (simp only [List.length_replicate, List.length_set, List.length_append, List.length_cons, List.length_nil, List.length_take, List.length_drop, List.length_map] <;> omega) | fail) only [vop_move, vcallee_move, vop_binOp, vcallee_binOp, bin2_tmp, strip_pv, optV_none, ev_tmp, put_some, at_mk, fits_some, ↓look_cons, ↓vlook_t, ↓vlook_f, guard_none, ↓vrun_nil, ↓code_region, ↓code_seq, ↓onNormal_normal, bin_int, int_lss, evG_eq, ↓vrun_cons, ↓run1_some, ↓run2_none, ↓run3_some, ↓code_cond, ↓vtest_bool, Option.map_some, Nat.reduceLT, Nat.reduceBEq, Int.reduceLT, Int.reduceBEq, true_and, Bool.true_and, Bool.cond_self, beq_self_eq_true, dec_t]
      refine vbr_split (fun hc3 => ?_) (fun hc3 => ?_) <;> simp only [decide_eq_true_eq, decide_eq_false_iff_not, Bool.or_eq_true, Bool.and_eq_true, Bool.or_eq_false_iff, Bool.and_eq_false_imp, Bool.not_eq_true', Bool.not_eq_false', beq_iff_eq, beq_eq_false_iff_ne, bne_iff_ne, bne_eq_false_iff_eq, ne_eq] at hc3
      · have hjl : j < A.length := by omega
        obtain ⟨r1, r2⟩ := ho.rng A[j] (List.getElem_mem hjl)
        have hth := there_v _ hsok hsw (4 * A[j]) (by omega)
        have hso := stp_lt (n := i) (q := w.length) (A := A) (i := j) (by omega)
        have hfn := finish_v _ hsok (by rw [hso]) hsw A[j] r1 (by rw [hso]; dsimp only; rw [dn_len]; omega) (by rw [hso]; exact dn_cur ho j hjl)
        have hsok2 := stp_ok ho hn1 hn16 (j + 1)
        have hsw2 : (stp i w.length A (j + 1)).wait.length ≤ 1000 := stp_wait (j + 1) (by omega)
        have hth2 := there_v _ hsok2 hsw2 (4 * A[j]) (by omega)
        rw [stp_next ho j hjl] at hnx
        rw [stp_there ho j hjl] at hth
        rw [stp_fin ho j hjl] at hfn
        rw [stp_there2 ho j hjl] at hth2
        have hg := cellsI_get A j hjl
        rw [List.getD_eq_getElem?_getD, List.getElem?_eq_getElem hjl, Option.getD_some] at hg
        generalize A[j] = a at *
        clear hso
        generalize stp i w.length A j = m at *
        generalize hm2 : stp i w.length A (j + 1) = m2 at *
        simp (config := { maxSteps := 2000000 }) (disch := first | omega | assumption | (simp only [List.length_cons, List.length_nil, Nat.zero_add, Nat.reduceAdd]; done) | (simp only [IntKind.wrap_i64]; omega) | (simp only [List.length_replicate, List.length_set, List.length_append, List.length_cons, List.length_nil, List.length_take, List.length_drop, List.length_map] <;> omega) | fail) only [vop_load, vcallee_load, vcallee_value, vcal_fn, strip_ptr, strip_agg, strip_fn, optV_none, ev_tmp, ev_func, put_some, at_mk, fits_some, ↓look_cons, ↓vlook_t, ↓vlook_f, guard_none, ↓code_skip, ↓code_region, ↓code_seq, ↓code_block, ↓onNormal_normal, load_ptr, vld_agg, blk_zero, blk_succ, evG_eq, ↓vrun_cons, ↓run1_some, ↓run2_none, ↓run2_some, ↓run3_some, ↓vcg_none, List.map_nil, List.length_cons, List.length_nil, List.map_cons, List.map_nil, List.nil_append, List.append_nil, List.take_succ_cons, List.take_nil, List.drop_zero, Option.map_some, ↓reduceIte, Nat.reduceAdd, Nat.reduceLT, Nat.reduceBEq, Int.reduceLT, Int.reduceAdd, Int.reduceBEq, Nat.zero_add, true_and, Bool.true_and, Bool.cond_self, beq_self_eq_true, Nat.le_refl, Try.vt26, dec_t, M.d]
        refine vc_pure hnx rfl ?_
        simp (config := { maxSteps := 2000000 }) (disch := first | omega | assumption | (simp only [List.length_cons, List.length_nil, Nat.zero_add, Nat.reduceAdd]; done) | (simp only [IntKind.wrap_i64]; omega) | (simp only [List.length_replicate, List.length_set, List.length_append, List.length_cons, List.length_nil, List.length_take, List.length_drop, List.length_map] <;> omega) | fail) only [vop_move, vcallee_move, vop_assign, vcallee_assign, vop_pick, vcallee_pick, vop_load, vcallee_load, vop_binOp, vcallee_binOp, vop_unOp, vcallee_unOp, vop_indexAddr, vcallee_indexAddr, vop_extract, vcallee_extract, vcallee_value, vcal_fn, bin2_tmp, vpick_bool, strip_pv, strip_ptr, strip_own, strip_tup, strip_fn, strip_opt, vstr_true, optV_none, optV_some, pickV_bool, ev_tmp, ev_const, ev_func, ofConst_int, ofConst_bool, put_some, at_mk, fits_some, ↓look_cons, ↓vlook_t, ↓vlook_f, guard_none, guard_some, vgof_bool, ↓vrun_nil, ↓code_region, ↓code_seq, ↓onNormal_normal, load_ptr, vld_one, vld_agg, blk_zero, blk_succ, iaddr_own, viao_some, bin_int, int_mul, int_neq, un_not, ext_tup, evG_eq, ↓vrun_cons, ↓run1_some, ↓run2_none, ↓run2_some, ↓run3_some, ↓runK_eq, ↓vcg_some, at_hp, List.map_nil, List.getElem?_cons_zero, List.getElem?_cons_succ, List.length_cons, List.length_nil, List.map_cons, List.map_nil, List.nil_append, List.append_nil, List.take_succ_cons, List.take_nil, List.drop_zero, Option.map_some, Option.bind_some, ↓reduceIte, Nat.reduceAdd, Nat.reduceLT, Nat.reduceBEq, Int.reduceLT, Int.reduceAdd, Int.reduceBEq, Int.toNat_natCast, Nat.zero_add, Nat.mul_one, true_and, or_true, Bool.not_true, Bool.not_false, Bool.or_true, Bool.true_and, cond_false, Bool.cond_self, beq_self_eq_true, Nat.le_refl, Try.vt3, Try.velem24, Try.vt26, wrap_i64_in, dec_t, int_bne_f, hg]
        refine vcg_pure (fun _ => hth) rfl ?_
        simp (config := { maxSteps := 2000000 }) (disch := first | omega | assumption | (simp only [List.length_cons, List.length_nil, Nat.zero_add, Nat.reduceAdd]; done) | (simp only [IntKind.wrap_i64]; omega) | (simp only [List.length_replicate, List.length_set, List.length_append, List.length_cons, List.length_nil, List.length_take, List.length_drop, List.length_map] <;> omega) | fail) only [vop_move, vcallee_move, vop_pick, vcallee_pick, vop_load, vcallee_load, vcallee_value, vcal_fn, vpick_bool, strip_pv, strip_ptr, strip_agg, strip_fn, strip_opt, vstr_true, optV_none, pickV_bool, ev_tmp, ev_const, ev_func, ofConst_bool, put_some, at_mk, fits_some, ↓look_cons, ↓vlook_t, ↓vlook_f, guard_none, ↓vrun_nil, ↓code_skip, ↓code_region, ↓code_seq, ↓onNormal_normal, load_ptr, vld_agg, blk_zero, blk_succ, evG_eq, ↓vrun_cons, ↓run1_some, ↓run2_none, ↓run2_some, ↓run3_some, ↓runK_eq, ↓vcg_none, ↓code_cond, ↓vtest_bool, ↓vbr_false, List.map_nil, List.length_cons, List.length_nil, List.map_cons, List.map_nil, List.nil_append, List.append_nil, List.take_succ_cons, List.take_nil, List.drop_zero, Option.map_some, ↓reduceIte, Nat.reduceAdd, Nat.reduceLT, Nat.reduceBEq, Int.reduceLT, Int.reduceAdd, Int.reduceBEq, Nat.zero_add, true_and, or_true, Bool.not_true, Bool.not_false, Bool.or_true, Bool.true_and, cond_false, Bool.cond_self, beq_self_eq_true, Nat.le_refl, Try.vt26, dec_t]
        refine vc_pure hfn rfl ?_
        simp (config := { maxSteps := 2000000 }) (disch := first | omega | assumption | (simp only [List.length_cons, List.length_nil, Nat.zero_add, Nat.reduceAdd]; done) | (simp only [IntKind.wrap_i64]; omega) | (simp only [List.length_replicate, List.length_set, List.length_append, List.length_cons, List.length_nil, List.length_take, List.length_drop, List.length_map] <;> omega) | fail) only [vop_move, vcallee_move, vop_assign, vcallee_assign, vop_alloc, vcallee_alloc, vop_load, vcallee_load, vop_store, vcallee_store, vop_binOp, vcallee_binOp, vop_extract, vcallee_extract, vcallee_value, vcal_fn, bin2_tmp, bin2_int, strip_pv, strip_ptr, strip_agg, strip_tup, strip_fn, strip_opt, vstr_true, optV_none, optV_some, ev_tmp, ev_const, ev_func, ofConst_int, put_some, put_none, at_mk, fits_some, fits_none, ↓look_cons, ↓vlook_t, ↓vlook_f, guard_none, guard_some, vgof_bool, ↓vrun_nil, ↓code_region, ↓code_seq, ↓onNormal_normal, load_ptr, vld_agg, store_ptr, vst_agg, blk_zero, blk_succ, set_zero, set_succ, alloc_eq, val1_some, allOne_nil, allOne_cons, one_pv, bin_int, int_mul, int_neq, ext_tup, evG_eq, ↓vrun_cons, ↓run1_some, ↓run2_none, ↓run2_some, ↓run3_some, ↓runK_eq, ↓vcg_some, at_hp, List.map_nil, V.splice, List.getElem?_cons_zero, List.getElem?_cons_succ, List.length_cons, List.length_nil, List.map_cons, List.map_nil, List.cons_append, List.nil_append, List.append_nil, List.take_succ_cons, List.take_zero, List.take_nil, List.drop_succ_cons, List.drop_zero, List.drop_nil, Option.map_some, Option.bind_some, ↓reduceIte, Nat.reduceAdd, Nat.reduceLT, Nat.reduceBEq, Int.reduceLT, Int.reduceAdd, Int.reduceBEq, Nat.zero_add, true_and, and_self, or_true, Bool.not_true, Bool.or_true, Bool.true_and, Bool.and_self, cond_true, Bool.cond_self, beq_self_eq_true, Nat.le_refl, Try.vt26, Try.vzero26, wrap_i64_in, dec_t, int_bne_f, M.d]
        refine vcg_pure (fun _ => hth2) rfl ?_
        simp (config := { maxSteps := 2000000 }) (disch := first | omega | assumption | (simp only [List.length_cons, List.length_nil, Nat.zero_add, Nat.reduceAdd]; done) | (simp only [IntKind.wrap_i64]; omega) | (simp only [List.length_replicate, List.length_set, List.length_append, List.length_cons, List.length_nil, List.length_take, List.length_drop, List.length_map] <;> omega) | fail) only [vop_move, vcallee_move, vop_assign, vcallee_assign, vop_pick, vcallee_pick, vop_load, vcallee_load, vop_store, vcallee_store, vop_binOp, vcallee_binOp, vop_unOp, vcallee_unOp, bin2_int, vpick_bool, strip_pv, strip_ptr, strip_agg, strip_opt, vstr_true, optV_none, optV_some, pickV_bool, ev_tmp, ev_const, ofConst_int, ofConst_bool, put_some, put_none, at_mk, fits_some, fits_none, ↓look_cons, ↓vlook_t, ↓vlook_f, guard_none, guard_some, vgof_bool, ↓vrun_nil, ↓code_skip, ↓code_region, ↓onNormal_normal, ↓onBlock_normal, load_ptr, vld_agg, store_ptr, vst_agg, blk_zero, blk_succ, set_zero, set_succ, allOne_nil, allOne_cons, one_pv, bin_int, int_add, un_not, evG_eq, ↓vrun_cons, ↓run1_some, ↓run2_none, ↓run3_some, ↓runK_eq, ↓code_cond, ↓vtest_bool, ↓vbr_false, V.splice, List.getElem?_cons_zero, List.getElem?_cons_succ, List.length_cons, List.length_nil, List.nil_append, List.append_nil, List.take_succ_cons, List.take_zero, List.take_nil, List.drop_succ_cons, List.drop_zero, List.drop_nil, Option.map_some, Option.bind_some, ↓reduceIte, Nat.reduceAdd, Nat.reduceLT, Nat.reduceBEq, Int.reduceLT, Int.reduceAdd, Int.reduceBEq, Nat.zero_add, true_and, and_self, or_true, Bool.not_true, Bool.not_false, Bool.or_true, Bool.true_and, Bool.and_self, cond_true, cond_false, Bool.cond_self, beq_self_eq_true, Nat.le_refl, Try.vt26, wrap_i64_in, dec_t]
        refine ⟨⟨j + 1, by omega⟩, by show i - (j + 1) < i - j; omega, ?_⟩
        dsimp only
        rw [hm2]
        exact (by refine gc_of (keep := [0, 1, 2, 3]) rfl rfl rfl (by decide) ?_ ?_ <;> (repeat' apply And.intro) <;> first | trivial | rfl | exact ⟨_, rfl, rfl, rfl, .inl ⟨rfl, rfl⟩⟩ | exact ⟨_, rfl, rfl, rfl, .inl ⟨cells_nums _ _ _, rfl⟩⟩ | exact ⟨_, rfl, rfl, rfl, .inl ⟨pvs_nums _ _, rfl⟩⟩ | exact ⟨_, rfl, rfl, rfl, .inr ⟨rfl, rfl⟩⟩)
      · obtain rfl : j = i := by omega
        rw [stp_n] at hnx ⊢
        simp (config := { maxSteps := 2000000 }) (disch := first | omega | assumption | (simp only [List.length_cons, List.length_nil, Nat.zero_add, Nat.reduceAdd]; done) | (simp only [IntKind.wrap_i64]; omega) | (simp only [List.length_replicate, List.length_set, List.length_append, List.length_cons, List.length_nil, List.length_take, List.length_drop, List.length_map] <;> omega) | fail) only [vop_load, vcallee_load, vcallee_value, vcal_fn, strip_ptr, strip_agg, strip_fn, optV_none, ev_tmp, ev_func, put_some, at_mk, fits_some, ↓look_cons, ↓vlook_t, ↓vlook_f, guard_none, ↓code_region, ↓code_seq, ↓code_exit, ↓onNormal_normal, ↓onNormal_exit, ↓onBlock_exit, load_ptr, vld_agg, blk_zero, blk_succ, evG_eq, ↓vrun_cons, ↓run1_some, ↓run2_none, ↓run2_some, ↓run3_some, ↓vcg_none, List.map_nil, List.length_cons, List.length_nil, List.map_cons, List.map_nil, List.nil_append, List.append_nil, List.take_succ_cons, List.take_nil, List.drop_zero, Option.map_some, ↓reduceIte, Nat.reduceAdd, Nat.reduceLT, Nat.reduceBEq, Int.reduceLT, Int.reduceAdd, Int.reduceBEq, Nat.zero_add, true_and, Bool.true_and, Bool.cond_self, beq_self_eq_true, Nat.le_refl, Try.vt26, dec_t, dec_f, M.d]
        refine vc_pure hnx rfl ?_
        simp (config := { maxSteps := 2000000 }) (disch := first | omega | assumption | (simp only [List.length_cons, List.length_nil, Nat.zero_add, Nat.reduceAdd]; done) | (simp only [IntKind.wrap_i64]; omega) | (simp only [List.length_replicate, List.length_set, List.length_append, List.length_cons, List.length_nil, List.length_take, List.length_drop, List.length_map] <;> omega) | fail) only [vop_move, vcallee_move, vop_assign, vcallee_assign, vop_pick, vcallee_pick, vop_load, vcallee_load, vop_binOp, vcallee_binOp, vop_unOp, vcallee_unOp, vop_fieldAddr, vcallee_fieldAddr, vop_extract, vcallee_extract, bin2_int, vpick_bool, strip_pv, strip_ptr, strip_tup, strip_opt, vstr_true, optV_none, optV_some, pickV_bool, ev_tmp, ev_const, ofConst_int, ofConst_bool, put_some, at_mk, fits_some, ↓look_cons, ↓vlook_t, ↓vlook_f, guard_none, guard_some, vgof_bool, ↓vrun_nil, ↓code_region, ↓code_seq, ↓code_ret, ↓onNormal_normal, frz_pv, frzHeap_zero, res_one, vres_tmp, load_ptr, vld_one, blk_zero, blk_succ, faddr_ptr, vfap_some, bin_int, int_eql, un_not, ext_tup, evG_eq, ↓vrun_cons, ↓run1_some, ↓run2_none, ↓run3_some, ↓runK_eq, ↓vpost_ret, vfin_some, vfin2_some, at_hp, List.getElem?_cons_zero, List.getElem?_cons_succ, Option.map_some, Option.bind_some, ↓reduceIte, reduceCtorEq, Nat.reduceLT, Nat.reduceBEq, Int.reduceLT, Int.reduceBEq, Nat.add_zero, and_self, or_true, Bool.not_true, Bool.not_false, Bool.or_true, Bool.and_self, cond_true, Bool.cond_self, beq_self_eq_true, Try.vt4, Try.vfield26x0, dec_t, Ret, DV.nums, M0, M.next]
end Go.Proofs.Ytheibaofmffkkaa
