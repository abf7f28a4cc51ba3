/-
  Closed facts about the types of this seat, written by a program (gentypes.py).
-/
import Derived.Test.YtmdjgpnonhbfdaaProg
import Derived.Test.YtmdjgpnonhbfdaaV2
import Derived.KernelRfl
namespace Go.Proofs
open Go.V

theorem Try.vkind3 : vkind Try.prog 3 = .int .i64 := by kernel_rfl
theorem Try.vkind4 : vkind Try.prog 4 = .bool := by kernel_rfl
theorem Try.vt5 : vt Try.prog 5 = some none := by kernel_rfl
theorem Try.vkind5 : vkind Try.prog 5 = .int .u8 := by kernel_rfl
theorem Try.vzero5 : vzero Try.prog 5 = some [.pv (.lit (.int .u8 0))] := by kernel_rfl
theorem Try.bytes5 : bytesT Try.prog 5 = some 1 := by kernel_rfl
theorem Try.notInt9 : notInt Try.prog 9 = true := by kernel_rfl
theorem Try.vkind9 : vkind Try.prog 9 = .str := by kernel_rfl
theorem Try.vkind31 : vkind Try.prog 31 = .int .u16 := by kernel_rfl
theorem Try.velem32 : velem Try.prog 32 = some (some 4, 5, 1) := by kernel_rfl
theorem Try.vt33 : vt Try.prog 33 = some none := by kernel_rfl
theorem Try.velem33 : velem Try.prog 33 = some (none, 5, 1) := by kernel_rfl
theorem Try.notInt33 : notInt Try.prog 33 = true := by kernel_rfl
theorem Try.vkind33 : vkind Try.prog 33 = .sl 5 := by kernel_rfl
theorem Try.vt34 : vt Try.prog 34 = some none := by kernel_rfl
theorem Try.vkind34 : vkind Try.prog 34 = .int .u32 := by kernel_rfl
theorem Try.vt64 : vt Try.prog 64 = some none := by kernel_rfl
theorem Try.vfield66x0 : vfield Try.prog 66 0 = some (64, 0, 1) := by kernel_rfl
theorem Try.vfield66x1 : vfield Try.prog 66 1 = some (33, 1, 1) := by kernel_rfl
theorem Try.vzero66 : vzero Try.prog 66 = some [.pv (.lit (.pointer none)), .pv (.slc [])] := by kernel_rfl
theorem Try.vkind72 : vkind Try.prog 72 = .int .u64 := by kernel_rfl
theorem Try.vt74 : vt Try.prog 74 = some (some 16) := by kernel_rfl
theorem Try.velem74 : velem Try.prog 74 = some (some 16, 34, 1) := by kernel_rfl
theorem Try.vzero74 : vzero Try.prog 74 = some [.pv (.lit (.int .u32 0)), .pv (.lit (.int .u32 0)), .pv (.lit (.int .u32 0)), .pv (.lit (.int .u32 0)), .pv (.lit (.int .u32 0)), .pv (.lit (.int .u32 0)), .pv (.lit (.int .u32 0)), .pv (.lit (.int .u32 0)), .pv (.lit (.int .u32 0)), .pv (.lit (.int .u32 0)), .pv (.lit (.int .u32 0)), .pv (.lit (.int .u32 0)), .pv (.lit (.int .u32 0)), .pv (.lit (.int .u32 0)), .pv (.lit (.int .u32 0)), .pv (.lit (.int .u32 0))] := by kernel_rfl
end Go.Proofs

namespace Go.Proofs.Ytmdjgpnonhbfdaa
open Go.V Go
set_option maxRecDepth 100000
set_option linter.unusedSimpArgs false

theorem pe : isPtr Try.prog 64 = true := by kernel_rfl
theorem cto : toU Try.prog 64 100 = true := by kernel_rfl
theorem cfr : frU Try.prog 100 64 66 = true := by kernel_rfl
theorem cob : Try.prog.cellsOf 66 = 2 := by kernel_rfl
theorem uok : ustrOk Try.prog 99 5 = true := by kernel_rfl
theorem noEscape_v (x : DV) (hp : Heap) : VCalls Try.prog 66 [x] hp fun r h' => r = x ∧ h' = hp :=
  vcalls_same Try.func66 (by kernel_rfl) (by kernel_rfl) rfl rfl

/-- A builder: fresh; used, and empty; used, with bytes. -/
def nilP : DV := .pv (.lit (.pointer none))
def bld (a b : DV) : Blk := ⟨66, true, [a, b]⟩
def bE : DV := .pv (.slc [])

theorem check0 : VCalls Try.prog 58 [.ptr 0 0] [bld nilP bE] (fun r h' => r = .tup [] ∧ h' = [bld (.ptr 0 0) bE]) := by
  refine vcalls_keep (fn := Try.f58) Try.func58 rfl (by kernel_rfl) (by simp [Try.f58]) ?_
  simp (config := { maxSteps := 2000000 }) (disch := first | omega | assumption | (simp only [List.length_cons, List.length_nil, Nat.zero_add, Nat.reduceAdd]; done) | (simp only [IntKind.wrap_i64]; omega) | (simp only [List.length_replicate, List.length_set, List.length_append, List.length_cons, List.length_nil, List.length_take, List.length_drop, List.length_map] <;> omega) | fail) only [vop_move, vcallee_move, vop_load, vcallee_load, vop_nilCheck, vcallee_nilCheck, vop_binOp, vcallee_binOp, vop_convert, vcallee_convert, vop_fieldAddr, vcallee_fieldAddr, vcallee_value, vcal_fn, bin2_ptr, conv_ptr, bin_nn, vnil_ptr, strip_pv, strip_ptr, strip_fn, optV_none, ev_tmp, ev_const, ev_func, put_some, at_mk, fits_some, ↓look_cons, ↓vlook_t, ↓vlook_f, guard_none, ↓vrun_nil, ↓code_region, ↓code_seq, ↓onNormal_normal, load_ptr, vld_one, blk_zero, faddr_ptr, vfap_some, enum_nil, enum_cons, evG_eq, ↓vrun_cons, ↓run1_some, ↓run2_none, ↓run2_some, ↓run3_some, ↓vcg_none, ↓code_cond, ↓vtest_bool, ↓vbr_true, List.map_nil, List.toList_toArray, List.getElem?_cons_zero, List.length_cons, List.length_nil, List.map_cons, List.map_nil, List.nil_append, List.append_nil, Option.map_some, ↓reduceIte, reduceCtorEq, Nat.reduceAdd, Nat.reduceLT, Nat.reduceBEq, Int.reduceLT, Int.reduceAdd, Int.reduceBEq, Nat.zero_add, Nat.add_zero, true_and, and_self, Bool.true_and, Bool.and_self, Bool.cond_self, beq_self_eq_true, Try.vt64, Try.vfield66x0, dec_t, Try.f58, bld, nilP, bE, ptrEq_eql pe, ptrEq_neq pe, convPtr_to cto, convPtr_from cfr, ofConst_ptr]
  refine (noEscape_v _ _).mono ?_
  rintro r h' ⟨rfl, rfl⟩
  simp (config := { maxSteps := 2000000 }) (disch := first | omega | assumption | (simp only [List.length_cons, List.length_nil, Nat.zero_add, Nat.reduceAdd]; done) | (simp only [IntKind.wrap_i64]; omega) | (simp only [List.length_replicate, List.length_set, List.length_append, List.length_cons, List.length_nil, List.length_take, List.length_drop, List.length_map] <;> omega) | fail) only [vop_store, vcallee_store, vop_nilCheck, vcallee_nilCheck, vop_convert, vcallee_convert, vop_fieldAddr, vcallee_fieldAddr, conv_ptr, vnil_ptr, strip_ptr, optV_none, ev_tmp, put_some, put_none, at_mk, fits_some, fits_none, ↓look_cons, ↓vlook_t, ↓vlook_f, guard_none, ↓vrun_nil, store_ptr, vst_one, blk_zero, set_zero, one_ptr, faddr_ptr, vfap_some, evG_eq, ↓vrun_cons, ↓run1_some, ↓run2_none, ↓run3_some, ↓runK_eq, ↓keep_normal, vfinK_some, at_hp, List.getElem?_cons_zero, List.length_cons, List.length_nil, List.set_cons_zero, Option.map_some, ↓reduceIte, reduceCtorEq, Nat.reduceAdd, Nat.reduceLT, Nat.reduceBEq, Int.reduceLT, Int.reduceAdd, Int.reduceBEq, Nat.zero_add, Nat.add_zero, and_self, Bool.and_self, cond_true, Bool.cond_self, beq_self_eq_true, Nat.le_refl, Try.vt64, Try.vfield66x0, dec_t, ptrEq_eql pe, ptrEq_neq pe, convPtr_to cto, convPtr_from cfr, cob, results_nil]

/-- The bytes of a builder. -/
def bufB (l : List UInt8) : Blk := ⟨5, true, cells encU l⟩
theorem check2 (l : List UInt8) : VCalls Try.prog 58 [.ptr 0 0] [bld (.ptr 0 0) (.own 1 1 0 l.length), bufB l] (fun r h' => r = .tup [] ∧ h' = [bld (.ptr 0 0) (.own 1 1 0 l.length), bufB l]) := by
  refine vcalls_keep (fn := Try.f58) Try.func58 rfl (by kernel_rfl) (by simp [Try.f58]) ?_
  simp (config := { maxSteps := 2000000 }) (disch := first | omega | assumption | (simp only [List.length_cons, List.length_nil, Nat.zero_add, Nat.reduceAdd]; done) | (simp only [IntKind.wrap_i64]; omega) | (simp only [List.length_replicate, List.length_set, List.length_append, List.length_cons, List.length_nil, List.length_take, List.length_drop, List.length_map] <;> omega) | fail) only [vop_move, vcallee_move, vop_load, vcallee_load, vop_nilCheck, vcallee_nilCheck, vop_binOp, vcallee_binOp, vop_fieldAddr, vcallee_fieldAddr, bin2_tmp, bin2_ptr, bin_pn, bin_pp, vnil_ptr, strip_pv, strip_ptr, optV_none, ev_tmp, ev_const, put_some, at_mk, fits_some, ↓look_cons, ↓vlook_t, ↓vlook_f, guard_none, ↓vrun_nil, ↓code_skip, ↓code_region, ↓code_seq, ↓onNormal_normal, load_ptr, vld_one, blk_zero, faddr_ptr, vfap_some, enum_nil, enum_cons, evG_eq, ↓vrun_cons, ↓run1_some, ↓run2_none, ↓run3_some, ↓code_cond, ↓vtest_bool, ↓vbr_false, ↓keep_normal, vfinK_some, List.toList_toArray, List.getElem?_cons_zero, List.length_cons, List.length_nil, Option.map_some, ↓reduceIte, reduceCtorEq, Nat.reduceAdd, Nat.reduceLT, Nat.reduceBEq, Int.reduceLT, Int.reduceAdd, Int.reduceBEq, Nat.zero_add, Nat.add_zero, and_self, Bool.not_true, Bool.and_self, Bool.cond_self, beq_self_eq_true, Try.vt64, Try.vfield66x0, dec_t, Try.f58, bld, bufB, ptrEq_eql pe, ptrEq_neq pe, convPtr_to cto, convPtr_from cfr, ofConst_ptr, results_nil]

/-- WriteString, at a fresh builder. -/
theorem ws0 (s : List UInt8) (hs : s.length ≤ 1000000) : VCalls Try.prog 38 [.ptr 0 0, .pv (.str s)] [bld nilP bE] (fun r h' => r = .tup [.int .i64 s.length, .pv (.lit .nilIface)] ∧ h' = [bld (.ptr 0 0) (.own 1 1 0 s.length), bufB s]) := by
  refine vcalls_keep (fn := Try.f38) Try.func38 rfl (by kernel_rfl) (by simp [Try.f38]) ?_
  simp (config := { maxSteps := 2000000 }) (disch := first | omega | assumption | (simp only [List.length_cons, List.length_nil, Nat.zero_add, Nat.reduceAdd]; done) | (simp only [IntKind.wrap_i64]; omega) | (simp only [List.length_replicate, List.length_set, List.length_append, List.length_cons, List.length_nil, List.length_take, List.length_drop, List.length_map] <;> omega) | fail) only [vop_move, vcallee_move, vop_assign, vcallee_assign, vcallee_value, vcal_fn, strip_pv, strip_ptr, strip_fn, optV_none, ev_tmp, ev_const, ev_func, ofConst_int, put_some, at_mk, fits_some, ↓look_cons, ↓vlook_t, ↓vlook_f, guard_none, ↓vrun_nil, ↓code_region, ↓code_seq, ↓onNormal_normal, enum_nil, enum_cons, evG_eq, ↓vrun_cons, ↓run1_some, ↓run2_none, ↓run2_some, ↓run3_some, ↓vcg_none, List.map_nil, List.toList_toArray, List.length_cons, List.length_nil, List.map_cons, List.map_nil, List.nil_append, List.append_nil, Nat.reduceAdd, Nat.reduceLT, Nat.reduceBEq, Int.reduceLT, Int.reduceAdd, Int.reduceBEq, Nat.zero_add, true_and, Bool.true_and, Bool.cond_self, beq_self_eq_true, dec_t, Try.f38, bld, nilP, bE, ptrEq_eql pe, ptrEq_neq pe, convPtr_to cto, convPtr_from cfr, ofConst_nilIface]
  refine check0.mono ?_
  rintro r h' ⟨rfl, rfl⟩
  have hs2 : s.length ≤ 140737488355328 := by omega
  simp (config := { maxSteps := 2000000 }) (disch := first | omega | assumption | (simp only [List.length_cons, List.length_nil, Nat.zero_add, Nat.reduceAdd]; done) | (simp only [IntKind.wrap_i64]; omega) | (simp only [List.length_replicate, List.length_set, List.length_append, List.length_cons, List.length_nil, List.length_take, List.length_drop, List.length_map] <;> omega) | fail) only [vop_move, vcallee_move, vop_assign, vcallee_assign, vop_load, vcallee_load, vop_store, vcallee_store, vop_nilCheck, vcallee_nilCheck, vop_fieldAddr, vcallee_fieldAddr, vop_builtin, vcallee_builtin, vnil_ptr, strip_pv, strip_ptr, strip_own, optV_none, ev_tmp, ev_const, put_some, put_none, at_mk, fits_some, fits_none, ↓look_cons, ↓vlook_t, ↓vlook_f, guard_none, ↓vrun_nil, ↓code_region, ↓code_seq, ↓code_ret, ↓onNormal_normal, allSome_nil, allSome_cons, res_two, vres_tmp, load_ptr, vld_one, store_ptr, vst_one, blk_zero, set_zero, one_own, faddr_ptr, vfap_some, len_str, vls_str, bi_len, bi_append, evG_eq, ↓vrun_cons, ↓run1_some, ↓run2_none, ↓run3_some, ↓runK_eq, ↓keep_ret, vfinK_some, at_hp, pvs, List.flatten_nil, List.map_nil, vsrc, vbase, vappend, List.getElem?_cons_zero, List.getElem?_cons_succ, List.getElem?_nil, List.length_cons, List.length_nil, List.map_cons, List.map_nil, List.cons_append, List.nil_append, List.set_cons_zero, List.set_cons_succ, Option.map_some, Option.map_none, ↓reduceIte, reduceCtorEq, Nat.reduceAdd, Nat.reduceLT, Nat.reduceBEq, Int.reduceLT, Int.reduceAdd, Int.reduceBEq, Nat.zero_add, Nat.mul_one, and_self, true_or, or_false, Bool.true_or, Bool.or_false, Bool.and_self, cond_true, Bool.cond_self, beq_self_eq_true, Try.vzero5, Try.bytes5, Try.notInt9, Try.vkind9, Try.vt33, Try.velem33, Try.vfield66x1, dec_t, bld, bE, ptrEq_eql pe, ptrEq_neq pe, convPtr_to cto, convPtr_from cfr, ofConst_nilIface, hs2, bufB, cellsU]

/-- WriteByte. -/
theorem wb_v (l : List UInt8) (b : UInt8) (hl : l.length ≤ 1000000) : VCalls Try.prog 39 [.ptr 0 0, .int .u8 b.toNat] [bld (.ptr 0 0) (.own 1 1 0 l.length), bufB l] (fun r h' => r = .pv (.lit .nilIface) ∧ h' = [bld (.ptr 0 0) (.own 3 1 0 (l ++ [b]).length), ⟨5, false, []⟩, bufB [b], bufB (l ++ [b])]) := by
  refine vcalls_keep (fn := Try.f39) Try.func39 rfl (by kernel_rfl) (by simp [Try.f39]) ?_
  simp (config := { maxSteps := 2000000 }) (disch := first | omega | assumption | (simp only [List.length_cons, List.length_nil, Nat.zero_add, Nat.reduceAdd]; done) | (simp only [IntKind.wrap_i64]; omega) | (simp only [List.length_replicate, List.length_set, List.length_append, List.length_cons, List.length_nil, List.length_take, List.length_drop, List.length_map] <;> omega) | fail) only [vop_move, vcallee_move, vop_assign, vcallee_assign, vcallee_value, vcal_fn, strip_pv, strip_ptr, strip_fn, optV_none, ev_tmp, ev_const, ev_func, put_some, at_mk, fits_some, ↓look_cons, ↓vlook_t, ↓vlook_f, guard_none, ↓vrun_nil, ↓code_region, ↓code_seq, ↓onNormal_normal, enum_nil, enum_cons, evG_eq, ↓vrun_cons, ↓run1_some, ↓run2_none, ↓run2_some, ↓run3_some, ↓vcg_none, List.map_nil, List.toList_toArray, List.length_cons, List.length_nil, List.map_cons, List.map_nil, List.nil_append, List.append_nil, Nat.reduceAdd, Nat.reduceLT, Nat.reduceBEq, Int.reduceLT, Int.reduceAdd, Int.reduceBEq, Nat.zero_add, true_and, Bool.true_and, Bool.cond_self, beq_self_eq_true, dec_t, Try.f39, bld, bufB, ptrEq_eql pe, ptrEq_neq pe, convPtr_to cto, convPtr_from cfr, ofConst_nilIface]
  refine (check2 l).mono ?_
  rintro r h' ⟨rfl, rfl⟩
  have hs2 : l.length + 1 ≤ 140737488355328 := by omega
  simp (config := { maxSteps := 2000000 }) (disch := first | omega | assumption | (simp only [List.length_cons, List.length_nil, Nat.zero_add, Nat.reduceAdd]; done) | (simp only [IntKind.wrap_i64]; omega) | (simp only [List.length_replicate, List.length_set, List.length_append, List.length_cons, List.length_nil, List.length_take, List.length_drop, List.length_map] <;> omega) | fail) only [vop_move, vcallee_move, vop_assign, vcallee_assign, vop_buildSlice, vcallee_buildSlice, vop_load, vcallee_load, vop_store, vcallee_store, vop_nilCheck, vcallee_nilCheck, vop_fieldAddr, vcallee_fieldAddr, vop_builtin, vcallee_builtin, vnil_ptr, strip_pv, strip_ptr, strip_own, optV_none, ev_tmp, ev_const, put_some, put_none, at_mk, fits_some, fits_none, ↓look_cons, ↓vlook_t, ↓vlook_f, guard_none, ↓vrun_nil, ↓code_region, ↓code_seq, ↓code_ret, ↓onNormal_normal, res_one, vres_tmp, load_ptr, vld_one, store_ptr, vst_one, blk_zero, blk_succ, set_zero, allOne_nil, allOne_cons, one_pv, one_own, faddr_ptr, vfap_some, bi_append, parts_nil, parts_cons, evG_eq, ↓vrun_cons, ↓run1_some, ↓run2_none, ↓run3_some, ↓runK_eq, ↓keep_ret, vfinK_some, at_hp, List.map_nil, dcells, vfill, vbuildSlice, V.mk, vsrc, vbase, vappend, V.kill, V.splice, List.getElem?_cons_zero, List.getElem?_cons_succ, List.length_cons, List.length_nil, List.map_cons, List.map_nil, List.cons_append, List.nil_append, List.append_nil, List.take_succ_cons, List.take_zero, List.take_nil, List.drop_succ_cons, List.drop_zero, List.drop_nil, List.set_cons_zero, List.set_cons_succ, Option.map_some, ↓reduceIte, reduceCtorEq, Nat.reduceAdd, Nat.reduceLT, Nat.reduceLeDiff, Nat.reduceBEq, Int.reduceLT, Int.reduceAdd, Int.reduceBEq, Nat.zero_add, Nat.mul_one, true_and, and_self, Bool.true_and, Bool.and_self, cond_true, Bool.cond_self, beq_self_eq_true, Nat.le_refl, cellsU_len, Try.vzero5, Try.bytes5, Try.vt33, Try.velem33, Try.notInt33, Try.vfield66x1, dec_t, bld, bufB, ptrEq_eql pe, ptrEq_neq pe, convPtr_to cto, convPtr_from cfr, ofConst_nilIface, hs2]
  have e1 : (cells encU l).take l.length = cells encU l := by rw [List.take_of_length_le]; rw [cellsU_len]; exact Nat.le_refl _
  rw [e1, cells_app, List.length_append]
  rfl

theorem str_v (l : List UInt8) (hl : l.length ≤ 1000000) (h0 : 0 < l.length) : VCalls Try.prog 40 [.ptr 0 0] [bld (.ptr 0 0) (.own 1 1 0 l.length), bufB l] (fun r h' => r = .pv (.str l) ∧ h' = [bld (.ptr 0 0) (.own 1 1 0 l.length), ⟨5, false, []⟩]) := by
  refine vcalls_keep (fn := Try.f40) Try.func40 rfl (by kernel_rfl) (by simp [Try.f40]) ?_
  simp (config := { maxSteps := 2000000 }) (disch := first | omega | assumption | (simp only [List.length_cons, List.length_nil, Nat.zero_add, Nat.reduceAdd]; done) | (simp only [IntKind.wrap_i64]; omega) | (simp only [List.length_replicate, List.length_set, List.length_append, List.length_cons, List.length_nil, List.length_take, List.length_drop, List.length_map] <;> omega) | fail) only [vop_assign, vcallee_assign, strip_pv, optV_none, ev_const, ofConst_string, put_some, at_mk, fits_some, guard_none, ↓vrun_nil, ↓code_region, ↓code_draw, ↓code_seq, ↓onNormal_normal, enum_nil, enum_cons, evG_eq, ↓vrun_cons, ↓run1_some, ↓run2_none, ↓run3_some, List.toList_toArray, List.length_cons, List.length_nil, Nat.reduceAdd, Nat.reduceLT, Int.reduceLT, Int.reduceAdd, Nat.zero_add, true_and, Bool.true_and, Bool.cond_self, dec_t, Try.f40, bld, bufB, ptrEq_eql pe, ptrEq_neq pe, convPtr_to cto, convPtr_from cfr]
  refine vspine [0, 1, 2, 3, 5, 6, 7, 8, 9] [⟨[], [], 4, [0, 1, 2, 5, 6, 7, 8, 9], []⟩, ⟨[], [], 10, [0, 1, 2, 3, 5, 6, 7, 8], []⟩, ⟨[], [], 11, [], []⟩] (by kernel_rfl) (by kernel_rfl) ?_
  have hu := ustr_eq (P := Try.prog) (hp := [bld (.ptr 0 0) (.own 1 1 0 l.length), bufB l]) (k := 1) (n := l.length) uok rfl rfl h0 (by omega)
  simp only [bld, bufB] at hu
  simp (config := { maxSteps := 2000000 }) (disch := first | omega | assumption | (simp only [List.length_cons, List.length_nil, Nat.zero_add, Nat.reduceAdd]; done) | (simp only [IntKind.wrap_i64]; omega) | (simp only [List.length_replicate, List.length_set, List.length_append, List.length_cons, List.length_nil, List.length_take, List.length_drop, List.length_map] <;> omega) | fail) only [vop_move, vcallee_move, foot_move, vop_assign, vcallee_assign, vop_load, vcallee_load, vop_nilCheck, vcallee_nilCheck, foot_nilCheck, vop_fieldAddr, vcallee_fieldAddr, foot_fieldAddr, foot_load, foot_call, vop_builtin, vcallee_builtin, ptrNo_ptr, bi_sdata, bi_ustr, vnil_ptr, strip_pv, strip_ptr, strip_own, optV_none, ev_tmp, put_some, at_mk, fits_some, ↓look_cons, ↓vlook_t, ↓vlook_f, guard_none, ↓vrun_nil, ↓code_ret, ↓onNormal_normal, res_one, vres_tmp, load_ptr, vld_one, blk_zero, faddr_ptr, vfap_some, vlk_sl, len_own, bi_len, evG_eq, ↓vrun_cons, ↓run1_some, ↓run2_none, ↓run3_some, ↓keep_ret, vfinK_some, List.map_nil, V.kill, List.getElem?_cons_zero, List.getElem?_cons_succ, List.map_cons, List.map_nil, List.nil_append, List.set_cons_zero, List.set_cons_succ, Option.map_some, ↓reduceIte, reduceCtorEq, Nat.reduceLT, Nat.reduceBEq, Int.reduceLT, Int.reduceBEq, Nat.zero_add, and_self, Bool.and_self, cond_true, Bool.cond_self, beq_self_eq_true, ↓vsp_nil, ↓vsp_cons, ↓vspK_eq, vspC_true, vspR_eq, pick_nil, pick_cons, pickO_some, creas_nil, agree_nil, agree_cons, agree1_some, sameAt_nil, sameAt_cons, Try.vt33, Try.vkind33, Try.vfield66x1, dec_t, ptrEq_eql pe, ptrEq_neq pe, convPtr_to cto, convPtr_from cfr, sdata_own h0, hu]
end Go.Proofs.Ytmdjgpnonhbfdaa

namespace Go.Proofs.Ytmdjgpnonhbfdaa
open Go.V Go
set_option maxRecDepth 100000
set_option linter.unusedSimpArgs false

/-- A byte of a number. -/
def byteX (n : Int) (i : Nat) : Int := IntKind.u8.wrap ((IntKind.u64.wrap n).fdiv (2 ^ min (8 * (i : Int)).toNat IntKind.u64.bits))
def byteI (n : Int) (i : Nat) : UInt8 := UInt8.ofNat (byteX n i).toNat
theorem wrap_u8_eq (x : Int) : IntKind.u8.wrap x = x % 256 := by
  simp [IntKind.wrap, IntKind.signed, IntKind.bits]
theorem byteI_eq (n : Int) (i : Nat) : byteX n i = ((byteI n i).toNat : Int) := by
  unfold byteI byteX
  rw [wrap_u8_eq]
  generalize (IntKind.u64.wrap n).fdiv (2 ^ min (8 * (i : Int)).toNat IntKind.u64.bits) = y
  simp only [UInt8.toNat_ofNat']
  omega
def putL (s : List UInt8) (n : Int) (k : Nat) : List UInt8 := s ++ (List.range k).map (byteI n)

theorem putL_len (s : List UInt8) (n : Int) (k : Nat) : (putL s n k).length = s.length + k := by simp [putL]
theorem putL_succ (s : List UInt8) (n : Int) (k : Nat) : putL s n (k + 1) = putL s n k ++ [byteI n k] := by simp [putL, List.range_succ]

set_option maxHeartbeats 1000000 in
theorem put_v (s : List UInt8) (hs : s.length ≤ 100000) (n : Int) (k : Nat) (h1 : 1 ≤ k) (h8 : k ≤ 8) : VCalls Try.prog 14 [.pv (.str s), .int .i64 n, .int .i64 k] [] (Ret (.pv (.str (putL s n k)))) := by
  refine vcalls_drop (fn := Try.f14) Try.func14 rfl (by kernel_rfl) (by simp [Try.f14]) ?_
  simp (config := { maxSteps := 2000000 }) (disch := first | omega | assumption | (simp only [List.length_cons, List.length_nil, Nat.zero_add, Nat.reduceAdd]; done) | (simp only [IntKind.wrap_i64]; omega) | (simp only [List.length_replicate, List.length_set, List.length_append, List.length_cons, List.length_nil, List.length_take, List.length_drop, List.length_map] <;> omega) | fail) only [vop_move, vcallee_move, vop_assign, vcallee_assign, vop_pick, vcallee_pick, vop_alloc, vcallee_alloc, vop_binOp, vcallee_binOp, vcallee_value, vcal_fn, bin2_int, vpick_bool, strip_pv, strip_ptr, strip_fn, strip_opt, vstr_true, optV_none, optV_some, pickV_bool, ev_tmp, ev_const, ev_func, ofConst_int, ofConst_bool, ofConst_string, put_some, at_mk, fits_some, ↓look_cons, ↓vlook_t, ↓vlook_f, guard_none, guard_some, vgof_bool, ↓vrun_nil, ↓code_skip, ↓code_region, ↓code_seq, ↓onNormal_normal, alloc_eq, val1_some, allOne_nil, allOne_cons, one_pv, bin_int, int_lss, int_gtr, enum_nil, enum_cons, evG_eq, ↓vrun_cons, ↓run1_some, ↓run2_none, ↓run2_some, ↓run3_some, ↓vcg_none, ↓code_cond, ↓vtest_bool, ↓vbr_false, List.map_nil, List.toList_toArray, List.getElem?_cons_zero, List.getElem?_cons_succ, List.length_nil, List.map_cons, List.map_nil, List.nil_append, List.append_nil, Option.map_some, Option.bind_some, ↓reduceIte, Nat.reduceAdd, Nat.reduceLT, Nat.reduceBEq, Int.reduceLT, Int.reduceAdd, Int.reduceBEq, Nat.zero_add, true_and, and_self, or_true, Bool.not_true, Bool.not_false, Bool.or_true, Bool.true_and, Bool.and_self, cond_true, cond_false, Bool.cond_self, beq_self_eq_true, Try.vzero66, dec_t, dec_f, Try.f14]
  refine (ws0 s (by omega)).mono ?_
  rintro r h' ⟨rfl, rfl⟩
  simp (config := { maxSteps := 2000000 }) (disch := first | omega | assumption | (simp only [List.length_cons, List.length_nil, Nat.zero_add, Nat.reduceAdd]; done) | (simp only [IntKind.wrap_i64]; omega) | (simp only [List.length_replicate, List.length_set, List.length_append, List.length_cons, List.length_nil, List.length_take, List.length_drop, List.length_map] <;> omega) | fail) only [vop_move, vcallee_move, strip_pv, optV_none, ev_tmp, ev_const, ofConst_int, put_some, at_mk, fits_some, ↓look_cons, ↓vlook_t, ↓vlook_f, guard_none, ↓vrun_nil, ↓code_region, ↓code_seq, ↓code_block, ↓code_loop, ↓onNormal_normal, evG_eq, ↓vrun_cons, ↓run1_some, ↓run2_none, ↓run3_some, ↓runK_eq, Nat.reduceLT, Nat.reduceBEq, Int.reduceLT, Int.reduceBEq, true_and, Bool.true_and, Bool.cond_self, beq_self_eq_true, dec_t, bld]
  refine vloopW (fun i : {i : Nat // i ≤ k} => ⟨31, 0, [(19, .int .i64 i.1), (18, .int .i64 k), (7, .ptr 0 0), (1, .int .i64 n)], [bld (.ptr 0 0) (.own 1 1 0 (putL s n i.1).length), bufB (putL s n i.1)]⟩) (fun i => k - i.1) ⟨0, by omega⟩ (.inl (by simpa only [putL, List.range_zero, List.map_nil, List.append_nil] using (by refine ⟨rfl, rfl, by simp, ?_, ?_, .inr ⟨?_, ?_⟩⟩ <;> (repeat' apply And.intro) <;> first | rfl | trivial | (intro _; first | rfl | apply cells_refs)))) ?_
  intro i
  obtain ⟨i, hi⟩ := i
  dsimp only
  simp (config := { maxSteps := 2000000 }) (disch := first | omega | assumption | (simp only [List.length_cons, List.length_nil, Nat.zero_add, Nat.reduceAdd]; done) | (simp only [IntKind.wrap_i64]; omega) | (simp only [List.length_replicate, List.length_set, List.length_append, List.length_cons, List.length_nil, List.length_take, List.length_drop, List.length_map] <;> omega) | fail) only [vop_binOp, vcallee_binOp, bin2_tmp, strip_pv, optV_none, ev_tmp, put_some, at_mk, fits_some, ↓look_cons, ↓vlook_t, ↓vlook_f, guard_none, ↓vrun_nil, ↓code_region, ↓code_seq, ↓onNormal_normal, bin_int, int_lss, evG_eq, ↓vrun_cons, ↓run1_some, ↓run2_none, ↓run3_some, ↓code_cond, ↓vtest_bool, Option.map_some, Nat.reduceLT, Nat.reduceBEq, Int.reduceLT, Int.reduceBEq, true_and, Bool.true_and, Bool.cond_self, beq_self_eq_true, dec_t, bld, bufB]
  refine vbr_split (fun hc => ?_) (fun hc => ?_) <;> simp only [decide_eq_true_eq, decide_eq_false_iff_not, Bool.or_eq_true, Bool.and_eq_true, Bool.or_eq_false_iff, Bool.and_eq_false_imp, Bool.not_eq_true', Bool.not_eq_false', beq_iff_eq, beq_eq_false_iff_ne, bne_iff_ne, bne_eq_false_iff_eq, ne_eq] at hc
  · simp (config := { maxSteps := 2000000 }) (disch := first | omega | assumption | (simp only [List.length_cons, List.length_nil, Nat.zero_add, Nat.reduceAdd]; done) | (simp only [IntKind.wrap_i64]; omega) | (simp only [List.length_replicate, List.length_set, List.length_append, List.length_cons, List.length_nil, List.length_take, List.length_drop, List.length_map] <;> omega) | fail) only [vop_move, vcallee_move, vop_assign, vcallee_assign, vop_binOp, vcallee_binOp, vop_convert, vcallee_convert, vcallee_value, vcal_fn, conv_pv, bin2_tmp, strip_pv, strip_ptr, strip_fn, optV_none, ev_tmp, ev_const, ev_func, ofConst_int, put_some, at_mk, fits_some, ↓look_cons, ↓vlook_t, ↓vlook_f, guard_none, ↓vrun_nil, ↓code_skip, ↓code_region, ↓code_seq, ↓code_block, ↓onNormal_normal, bin_int, int_mul, int_shr, conv_int, vci_int, evG_eq, ↓vrun_cons, ↓run1_some, ↓run2_none, ↓run2_some, ↓run3_some, ↓vcg_none, List.map_nil, List.map_cons, List.map_nil, List.nil_append, List.append_nil, Option.map_some, Nat.reduceLT, Nat.reduceBEq, Int.reduceLT, Int.reduceBEq, true_and, Bool.true_and, Bool.cond_self, beq_self_eq_true, Try.vkind3, Try.vkind5, Try.vkind72, wrap_i64_in, dec_t]
    have hw := wb_v (putL s n i) (byteI n i) (by rw [putL_len]; omega)
    rw [← byteI_eq] at hw
    refine hw.mono ?_
    rintro r h' ⟨rfl, rfl⟩
    simp (config := { maxSteps := 2000000 }) (disch := first | omega | assumption | (simp only [List.length_cons, List.length_nil, Nat.zero_add, Nat.reduceAdd]; done) | (simp only [IntKind.wrap_i64]; omega) | (simp only [List.length_replicate, List.length_set, List.length_append, List.length_cons, List.length_nil, List.length_take, List.length_drop, List.length_map] <;> omega) | fail) only [vop_move, vcallee_move, vop_binOp, vcallee_binOp, bin2_int, strip_pv, optV_none, ev_tmp, ev_const, ofConst_int, put_some, at_mk, fits_some, ↓look_cons, ↓vlook_t, ↓vlook_f, guard_none, ↓vrun_nil, ↓code_region, ↓onNormal_normal, ↓onBlock_normal, bin_int, int_add, evG_eq, ↓vrun_cons, ↓run1_some, ↓run2_none, ↓run3_some, ↓runK_eq, Option.map_some, Nat.reduceLT, Nat.reduceBEq, Int.reduceLT, Int.reduceBEq, true_and, Bool.true_and, Bool.cond_self, beq_self_eq_true, wrap_i64_in, dec_t, bld, bufB]
    refine ⟨⟨i + 1, by omega⟩, by show k - (i + 1) < k - i; omega, ?_⟩
    rw [putL_succ]
    refine gc_of (keep := [0, 3]) rfl rfl rfl (by decide) ⟨⟨_, rfl, rfl, rfl, .inr ⟨rfl, rfl⟩⟩, ⟨_, rfl, rfl, rfl, .inl ⟨?_, rfl⟩⟩, trivial⟩ ?_
    · show DV.nums.go _ (cells encU _) = true
      exact cells_nums _ _ _
    · refine ⟨⟨rfl, rfl⟩, ⟨rfl, rfl⟩, ⟨rfl, rfl⟩, ⟨rfl, rfl⟩, trivial⟩
  · simp (config := { maxSteps := 2000000 }) (disch := first | omega | assumption | (simp only [List.length_cons, List.length_nil, Nat.zero_add, Nat.reduceAdd]; done) | (simp only [IntKind.wrap_i64]; omega) | (simp only [List.length_replicate, List.length_set, List.length_append, List.length_cons, List.length_nil, List.length_take, List.length_drop, List.length_map] <;> omega) | fail) only [vcallee_value, vcal_fn, strip_ptr, strip_fn, ev_tmp, ev_func, fits_some, ↓look_cons, ↓vlook_t, ↓vlook_f, guard_none, ↓code_region, ↓code_seq, ↓code_exit, ↓onNormal_normal, ↓onNormal_exit, ↓onBlock_exit, evG_eq, ↓vrun_cons, ↓run1_some, ↓run2_some, ↓vcg_none, List.map_nil, List.map_cons, List.map_nil, List.nil_append, List.append_nil, ↓reduceIte, Nat.reduceLT, Nat.reduceBEq, Int.reduceLT, Int.reduceBEq, true_and, Bool.true_and, beq_self_eq_true, dec_t, dec_f]
    have hik : i = k := by omega
    subst hik
    refine (str_v (putL s n i) (by rw [putL_len]; omega) (by rw [putL_len]; omega)).mono ?_
    rintro r h' ⟨rfl, rfl⟩
    simp (config := { maxSteps := 2000000 }) (disch := first | omega | assumption | (simp only [List.length_cons, List.length_nil, Nat.zero_add, Nat.reduceAdd]; done) | (simp only [IntKind.wrap_i64]; omega) | (simp only [List.length_replicate, List.length_set, List.length_append, List.length_cons, List.length_nil, List.length_take, List.length_drop, List.length_map] <;> omega) | fail) only [vop_assign, vcallee_assign, strip_pv, optV_none, ev_tmp, put_some, at_mk, fits_some, ↓look_cons, ↓vlook_t, guard_none, ↓vrun_nil, ↓code_ret, ↓onNormal_normal, frz_pv, frzHeap_zero, res_one, vres_tmp, evG_eq, ↓vrun_cons, ↓run1_some, ↓run2_none, ↓run3_some, ↓runK_eq, ↓vpost_ret, vfin_some, vfin2_some, at_hp, Nat.reduceLT, Int.reduceLT, and_self, Bool.and_self, Bool.cond_self, beq_self_eq_true, dec_t, Ret, DV.nums]

theorem btsF : bts Try.prog 33 9 = true := by kernel_rfl

end Go.Proofs.Ytmdjgpnonhbfdaa

namespace Go.Proofs.Ytmdjgpnonhbfdaa
open Go.V Go
set_option maxRecDepth 100000
set_option linter.unusedSimpArgs false

def accX (s : List UInt8) (a : Nat) : Nat → Int
  | 0 => 0
  | i + 1 => bits BinOp.or .u64 (accX s a i) (IntKind.u64.wrap (IntKind.u64.wrap (s.getD (a + i) 0).toNat * 2 ^ min (8 * (i : Int)).toNat IntKind.u64.bits))

theorem str_get (s : List UInt8) (a i : Nat) (h : a + i < s.length) : s[((a : Int) + (i : Int)).toNat]? = some (s.getD (a + i) 0) := by
  have e : ((a : Int) + (i : Int)).toNat = a + i := by omega
  rw [e, List.getD_eq_getElem?_getD, List.getElem?_eq_getElem h]; rfl

theorem get_v (s : List UInt8) (hs : s.length ≤ 100000) (a k : Nat) (h : 1 ≤ k ∧ k ≤ 8) (hh : a + k ≤ s.length) : VCalls Try.prog 16 [.pv (.str s), .int .i64 a, .int .i64 k] [] (Ret (.tup [.int .i64 (IntKind.i64.wrap (accX s a k)), .int .i64 0])) := by
  refine vcalls_drop (fn := Try.f16) Try.func16 rfl (by kernel_rfl) (by simp [Try.f16]) ?_
  have h1 : ¬ (k : Int) < 1 := by omega
  have h2 : ¬ 8 < (k : Int) := by omega
  have h3 : ¬ (a : Int) < 0 := by omega
  have h4 : ¬ (s.length : Int) < a := by omega
  have h5 : ¬ (s.length : Int) - a < k := by omega
  simp (config := { maxSteps := 2000000 }) (disch := first | omega | assumption | (simp only [List.length_cons, List.length_nil, Nat.zero_add, Nat.reduceAdd]; done) | (simp only [IntKind.wrap_i64]; omega) | (simp only [List.length_replicate, List.length_set, List.length_append, List.length_cons, List.length_nil, List.length_take, List.length_drop, List.length_map] <;> omega) | fail) only [vop_move, vcallee_move, vop_assign, vcallee_assign, vop_pick, vcallee_pick, vop_binOp, vcallee_binOp, vop_builtin, vcallee_builtin, bin2_tmp, bin2_int, vpick_bool, strip_pv, strip_opt, vstr_true, optV_none, optV_some, pickV_bool, ev_tmp, ev_const, ofConst_int, ofConst_bool, put_some, at_mk, fits_some, ↓look_cons, ↓vlook_t, ↓vlook_f, guard_none, guard_some, vgof_bool, ↓vrun_nil, ↓code_skip, ↓code_region, ↓code_seq, ↓code_block, ↓code_loop, ↓onNormal_normal, ↓onBlock_normal, bin_int, int_sub, int_lss, int_gtr, len_str, vls_str, bi_len, enum_nil, enum_cons, evG_eq, ↓vrun_cons, ↓run1_some, ↓run2_none, ↓run3_some, ↓code_cond, ↓vtest_bool, ↓vbr_false, List.map_nil, List.toList_toArray, List.getElem?_cons_zero, List.getElem?_cons_succ, List.length_nil, List.map_cons, List.map_nil, Option.map_some, Option.bind_some, Nat.reduceAdd, Nat.reduceLT, Nat.reduceBEq, Int.reduceLT, Int.reduceAdd, Int.reduceBEq, Nat.zero_add, decide_false, true_and, or_true, Bool.not_true, Bool.not_false, Bool.or_true, Bool.true_and, cond_false, Bool.cond_self, beq_self_eq_true, Try.vkind9, wrap_i64_in, dec_t, Try.f16, h1, h2, h3, h4, h5]
  refine vloop (fun i : {i : Nat // i ≤ k} => ⟨52, 0, [(35, .int .i64 i.1), (34, .int .i64 k), (8, .int .u64 (accX s a i.1)), (0, .pv (.str s)), (1, .int .i64 a)], []⟩) (fun i => k - i.1) ⟨0, by omega⟩ (by refine ⟨rfl, rfl, by simp, ?_, ?_, .inl rfl⟩ <;> (repeat' apply And.intro) <;> first | rfl | trivial) ?_
  intro i
  obtain ⟨i, hi⟩ := i
  dsimp only
  simp (config := { maxSteps := 2000000 }) (disch := first | omega | assumption | (simp only [List.length_cons, List.length_nil, Nat.zero_add, Nat.reduceAdd]; done) | (simp only [IntKind.wrap_i64]; omega) | (simp only [List.length_replicate, List.length_set, List.length_append, List.length_cons, List.length_nil, List.length_take, List.length_drop, List.length_map] <;> omega) | fail) only [vop_binOp, vcallee_binOp, bin2_tmp, strip_pv, optV_none, ev_tmp, put_some, at_mk, fits_some, ↓look_cons, ↓vlook_t, ↓vlook_f, guard_none, ↓vrun_nil, ↓code_region, ↓code_seq, ↓onNormal_normal, bin_int, int_lss, evG_eq, ↓vrun_cons, ↓run1_some, ↓run2_none, ↓run3_some, ↓code_cond, ↓vtest_bool, Option.map_some, Nat.reduceLT, Nat.reduceBEq, Int.reduceLT, Int.reduceBEq, true_and, Bool.true_and, Bool.cond_self, beq_self_eq_true, dec_t]
  refine vbr_split (fun hc => ?_) (fun hc => ?_) <;> simp only [decide_eq_true_eq, decide_eq_false_iff_not, Bool.or_eq_true, Bool.and_eq_true, Bool.or_eq_false_iff, Bool.and_eq_false_imp, Bool.not_eq_true', Bool.not_eq_false', beq_iff_eq, beq_eq_false_iff_ne, bne_iff_ne, bne_eq_false_iff_eq, ne_eq] at hc
  · have hg : s[((a : Int) + (i : Int)).toNat]? = some (s.getD (a + i) 0) := str_get s a i (by omega)
    have h0 : 0 ≤ (a : Int) + (i : Int) := by omega
    simp (config := { maxSteps := 2000000 }) (disch := first | omega | assumption | (simp only [List.length_cons, List.length_nil, Nat.zero_add, Nat.reduceAdd]; done) | (simp only [IntKind.wrap_i64]; omega) | (simp only [List.length_replicate, List.length_set, List.length_append, List.length_cons, List.length_nil, List.length_take, List.length_drop, List.length_map] <;> omega) | fail) only [vop_move, vcallee_move, vop_assign, vcallee_assign, vop_binOp, vcallee_binOp, vop_convert, vcallee_convert, vop_index, vcallee_index, conv_pv, bin2_tmp, bin2_int, strip_pv, optV_none, ev_tmp, ev_const, ofConst_int, put_some, at_mk, fits_some, ↓look_cons, ↓vlook_t, ↓vlook_f, guard_none, ↓vrun_nil, ↓code_skip, ↓code_region, ↓code_seq, ↓code_block, ↓onNormal_normal, ↓onBlock_normal, index_str, vivs_some, bin_int, int_add, int_mul, int_or, int_shl, conv_int, vci_int, evG_eq, ↓vrun_cons, ↓run1_some, ↓run2_none, ↓run3_some, Option.map_some, Nat.reduceLT, Nat.reduceBEq, Int.reduceLT, Int.reduceBEq, true_and, Bool.true_and, Bool.cond_self, beq_self_eq_true, Try.vkind5, Try.vkind9, Try.vkind72, wrap_i64_in, dec_t, hg]
    exact ⟨⟨i + 1, by omega⟩, by show k - (i + 1) < k - i; omega, (by refine ⟨rfl, rfl, by simp, ?_, ?_, .inl rfl⟩ <;> (repeat' apply And.intro) <;> first | rfl | trivial)⟩
  · simp (config := { maxSteps := 2000000 }) (disch := first | omega | assumption | (simp only [List.length_cons, List.length_nil, Nat.zero_add, Nat.reduceAdd]; done) | (simp only [IntKind.wrap_i64]; omega) | (simp only [List.length_replicate, List.length_set, List.length_append, List.length_cons, List.length_nil, List.length_take, List.length_drop, List.length_map] <;> omega) | fail) only [vop_move, vcallee_move, vop_assign, vcallee_assign, vop_convert, vcallee_convert, conv_pv, strip_pv, optV_none, ev_tmp, ev_const, ofConst_int, put_some, at_mk, fits_some, ↓look_cons, ↓vlook_t, ↓vlook_f, guard_none, ↓vrun_nil, ↓code_region, ↓code_seq, ↓code_exit, ↓code_ret, ↓onNormal_normal, ↓onNormal_exit, ↓onBlock_exit, frz_tup, frzT_pv, allSome_nil, allSome_cons, frzHeap_zero, res_two, vres_tmp, conv_int, vci_int, evG_eq, ↓vrun_cons, ↓run1_some, ↓run2_none, ↓run3_some, ↓vpost_ret, vfin_some, vfin2_some, at_hp, List.map_nil, List.map_cons, List.map_nil, Option.map_some, ↓reduceIte, Nat.reduceLT, Nat.reduceBEq, Int.reduceLT, Int.reduceBEq, true_and, and_self, Bool.true_and, Bool.and_self, Bool.cond_self, beq_self_eq_true, DV.wk.go, Try.vkind3, Try.vkind72, dec_t, dec_f, Ret, DV.nums, DV.nums.go]
    have hik : i = k := by omega
    rw [hik]

end Go.Proofs.Ytmdjgpnonhbfdaa

namespace Go.Proofs.Ytmdjgpnonhbfdaa
open Go.V Go
set_option maxRecDepth 100000
set_option linter.unusedSimpArgs false

def tc (l : List Int) : List DV := l.map (DV.int .u32)
theorem tc_len (l : List Int) : (tc l).length = l.length := by simp [tc]
theorem tc_get (l : List Int) (i : Nat) (h : i < l.length) : (tc l)[i]? = some (.int .u32 (l.getD i 0)) := by
  rw [tc, List.getElem?_map, List.getD_eq_getElem?_getD, List.getElem?_eq_getElem h]; rfl
theorem tc_set (l : List Int) (i : Nat) (n : Int) : (tc l).set i (.pv (.lit (.int .u32 n))) = tc (l.set i n) := by rw [tc, tc, List.map_set]
theorem tc_nums (p : Nat → Bool) (l : List Int) : DV.nums.go p (tc l) = true := by
  induction l with
  | nil => rfl
  | cons a l ih => simpa [tc, DV.nums.go, DV.nums] using ih
theorem tc_refs (n : Nat) (l : List Int) : DV.refs.go n (tc l) = true := by
  induction l with
  | nil => rfl
  | cons a l ih => simpa [tc, DV.refs.go, DV.refs] using ih

theorem tc_one (l : List Int) : allOne (tc l) = true := by
  induction l with
  | nil => rfl
  | cons a l ih => simpa [tc, allOne, DV.one] using ih

theorem tc_frz (n : Nat) (hp : Heap) (l : List Int) : allSome ((tc l).map (frz1 n hp)) = some (tc l) := by
  have e : tc l = (l.map fun n => PV.lit (.int .u32 n)).map DV.pv := by rw [tc, List.map_map]; rfl
  rw [e]; exact pvs_frz n hp _

def rnd (r : Int) : Int := if bits .and .u32 r 1 = 1 then bits .xor .u32 (r.fdiv 2) 2197175160 else r.fdiv 2
def rndN : Nat → Int → Int
  | 0, r => r
  | n + 1, r => rnd (rndN n r)
def rem16 (i : Nat) : Int := rndN 4 i
def tabN (i : Nat) : List Int := (List.range 16).map fun j => if j < i then rem16 j else 0
theorem tabN_len (i : Nat) : (tabN i).length = 16 := by simp [tabN]

theorem tabN_succ (i : Nat) (h : i < 16) : (tabN i).set i (rem16 i) = tabN (i + 1) := by
  apply List.ext_getElem?
  intro j
  rw [List.getElem?_set]
  by_cases hij : i = j
  · subst hij
    rw [if_pos rfl, if_pos (by rw [tabN_len]; exact h)]
    simp [tabN, h]
  · rw [if_neg hij]
    simp only [tabN, List.getElem?_map]
    by_cases hj : j < 16
    · rw [List.getElem?_range hj]
      simp only [Option.map_some]
      by_cases h1 : j < i
      · rw [if_pos h1, if_pos (by omega)]
      · rw [if_neg h1, if_neg (by omega)]
    · rw [List.getElem?_eq_none (by simp; omega)]
      rfl

set_option maxHeartbeats 1000000 in
theorem remainders_v : VCalls Try.prog 41 [] [] (Ret (.agg (tc (tabN 16)))) := by
  refine vcalls_drop (fn := Try.f41) Try.func41 rfl (by kernel_rfl) (by simp [Try.f41]) ?_
  simp (config := { maxSteps := 2000000 }) (disch := first | omega | assumption | (simp only [List.length_cons, List.length_nil, Nat.zero_add, Nat.reduceAdd]; done) | (simp only [IntKind.wrap_i64]; omega) | (simp only [List.length_replicate, List.length_set, List.length_append, List.length_cons, List.length_nil, List.length_take, List.length_drop, List.length_map] <;> omega) | fail) only [vop_move, vcallee_move, vop_alloc, vcallee_alloc, strip_pv, optV_none, ev_const, ofConst_int, put_some, at_mk, fits_some, guard_none, ↓vrun_nil, ↓code_region, ↓code_seq, ↓code_block, ↓code_loop, ↓onNormal_normal, alloc_eq, val1_some, allOne_nil, allOne_cons, one_pv, enum_nil, evG_eq, ↓vrun_cons, ↓run1_some, ↓run2_none, ↓run3_some, List.toList_toArray, List.length_cons, List.length_nil, List.cons_append, List.nil_append, ↓reduceIte, Nat.reduceLT, Int.reduceLT, Nat.zero_add, true_and, and_self, Bool.true_and, Bool.and_self, cond_true, Bool.cond_self, Try.vzero74, dec_t, Try.f41]
  refine vloop (fun i : {i : Nat // i ≤ 16} => ⟨25, 0, [(4, .int .i64 i.1), (1, .ptr 1 0), (0, .ptr 0 0)], [⟨74, true, tc (tabN 0)⟩, ⟨74, true, tc (tabN i.1)⟩]⟩) (fun i => 16 - i.1) ⟨0, by omega⟩ (by refine ⟨rfl, rfl, by simp, ?_, ?_, .inl rfl⟩ <;> (repeat' apply And.intro) <;> first | rfl | trivial) ?_
  intro i
  obtain ⟨i, hi⟩ := i
  dsimp only
  simp (config := { maxSteps := 2000000 }) (disch := first | omega | assumption | (simp only [List.length_cons, List.length_nil, Nat.zero_add, Nat.reduceAdd]; done) | (simp only [IntKind.wrap_i64]; omega) | (simp only [List.length_replicate, List.length_set, List.length_append, List.length_cons, List.length_nil, List.length_take, List.length_drop, List.length_map] <;> omega) | fail) only [vop_binOp, vcallee_binOp, bin2_int, strip_pv, optV_none, ev_tmp, ev_const, ofConst_int, put_some, at_mk, fits_some, ↓look_cons, ↓vlook_t, guard_none, ↓vrun_nil, ↓code_region, ↓code_seq, ↓onNormal_normal, bin_int, int_lss, evG_eq, ↓vrun_cons, ↓run1_some, ↓run2_none, ↓run3_some, ↓code_cond, ↓vtest_bool, Option.map_some, Nat.reduceLT, Int.reduceLT, true_and, Bool.true_and, Bool.cond_self, beq_self_eq_true, dec_t]
  refine vbr_split (fun hc => ?_) (fun hc => ?_) <;> simp only [decide_eq_true_eq, decide_eq_false_iff_not, Bool.or_eq_true, Bool.and_eq_true, Bool.or_eq_false_iff, Bool.and_eq_false_imp, Bool.not_eq_true', Bool.not_eq_false', beq_iff_eq, beq_eq_false_iff_ne, bne_iff_ne, bne_eq_false_iff_eq, ne_eq] at hc
  · have hw : IntKind.u32.wrap (i : Int) = (i : Int) := by simp [IntKind.wrap, IntKind.signed, IntKind.bits]; omega
    simp (config := { maxSteps := 2000000 }) (disch := first | omega | assumption | (simp only [List.length_cons, List.length_nil, Nat.zero_add, Nat.reduceAdd]; done) | (simp only [IntKind.wrap_i64]; omega) | (simp only [List.length_replicate, List.length_set, List.length_append, List.length_cons, List.length_nil, List.length_take, List.length_drop, List.length_map] <;> omega) | fail) only [vop_move, vcallee_move, vop_assign, vcallee_assign, vop_convert, vcallee_convert, conv_pv, strip_pv, optV_none, ev_tmp, ev_const, ofConst_int, put_some, at_mk, fits_some, ↓look_cons, ↓vlook_t, ↓vlook_f, guard_none, ↓vrun_nil, ↓code_skip, ↓code_region, ↓code_seq, ↓code_block, ↓code_loop, ↓onNormal_normal, conv_int, vci_int, evG_eq, ↓vrun_cons, ↓run1_some, ↓run2_none, ↓run3_some, Nat.reduceLT, Nat.reduceBEq, Int.reduceLT, Int.reduceBEq, true_and, Bool.true_and, Bool.cond_self, beq_self_eq_true, Try.vkind3, Try.vkind34, dec_t, hw]
    refine vloop (fun j : {j : Nat // j ≤ 4} => ⟨25, 0, [(9, .int .i64 j.1), (2, .int .i64 i), (3, .int .u32 (rndN j.1 i)), (4, .int .i64 i), (1, .ptr 1 0), (0, .ptr 0 0)], [⟨74, true, tc (tabN 0)⟩, ⟨74, true, tc (tabN i)⟩]⟩) (fun j => 4 - j.1) ⟨0, by omega⟩ (by refine ⟨rfl, rfl, by simp, ?_, ?_, .inl rfl⟩ <;> (repeat' apply And.intro) <;> first | rfl | trivial) ?_
    intro j
    obtain ⟨j, hj⟩ := j
    dsimp only
    simp (config := { maxSteps := 2000000 }) (disch := first | omega | assumption | (simp only [List.length_cons, List.length_nil, Nat.zero_add, Nat.reduceAdd]; done) | (simp only [IntKind.wrap_i64]; omega) | (simp only [List.length_replicate, List.length_set, List.length_append, List.length_cons, List.length_nil, List.length_take, List.length_drop, List.length_map] <;> omega) | fail) only [vop_binOp, vcallee_binOp, bin2_int, strip_pv, optV_none, ev_tmp, ev_const, ofConst_int, put_some, at_mk, fits_some, ↓look_cons, ↓vlook_t, guard_none, ↓vrun_nil, ↓code_region, ↓code_seq, ↓onNormal_normal, bin_int, int_lss, evG_eq, ↓vrun_cons, ↓run1_some, ↓run2_none, ↓run3_some, ↓code_cond, ↓vtest_bool, Option.map_some, Nat.reduceLT, Int.reduceLT, true_and, Bool.true_and, Bool.cond_self, beq_self_eq_true, dec_t]
    refine vbr_split (fun hcj => ?_) (fun hcj => ?_) <;> simp only [decide_eq_true_eq, decide_eq_false_iff_not, Bool.or_eq_true, Bool.and_eq_true, Bool.or_eq_false_iff, Bool.and_eq_false_imp, Bool.not_eq_true', Bool.not_eq_false', beq_iff_eq, beq_eq_false_iff_ne, bne_iff_ne, bne_eq_false_iff_eq, ne_eq] at hcj
    · simp (config := { maxSteps := 2000000 }) (disch := first | omega | assumption | (simp only [List.length_cons, List.length_nil, Nat.zero_add, Nat.reduceAdd]; done) | (simp only [IntKind.wrap_i64]; omega) | (simp only [List.length_replicate, List.length_set, List.length_append, List.length_cons, List.length_nil, List.length_take, List.length_drop, List.length_map] <;> omega) | fail) only [vop_move, vcallee_move, vop_binOp, vcallee_binOp, bin2_int, strip_pv, optV_none, ev_tmp, ev_const, ofConst_int, put_some, at_mk, fits_some, ↓look_cons, ↓vlook_t, ↓vlook_f, guard_none, ↓vrun_nil, ↓code_skip, ↓code_region, ↓code_seq, ↓code_block, ↓onNormal_normal, bin_int, int_and, int_eql, evG_eq, ↓vrun_cons, ↓run1_some, ↓run2_none, ↓run3_some, ↓code_cond, ↓vtest_bool, Option.map_some, Nat.reduceLT, Nat.reduceBEq, Int.reduceLT, Int.reduceBEq, true_and, Bool.true_and, Bool.cond_self, beq_self_eq_true, dec_t]
      refine vbr_split (fun hb => ?_) (fun hb => ?_) <;> simp only [decide_eq_true_eq, decide_eq_false_iff_not, Bool.or_eq_true, Bool.and_eq_true, Bool.or_eq_false_iff, Bool.and_eq_false_imp, Bool.not_eq_true', Bool.not_eq_false', beq_iff_eq, beq_eq_false_iff_ne, bne_iff_ne, bne_eq_false_iff_eq, ne_eq] at hb
      · simp (config := { maxSteps := 2000000 }) (disch := first | omega | assumption | (simp only [List.length_cons, List.length_nil, Nat.zero_add, Nat.reduceAdd]; done) | (simp only [IntKind.wrap_i64]; omega) | (simp only [List.length_replicate, List.length_set, List.length_append, List.length_cons, List.length_nil, List.length_take, List.length_drop, List.length_map] <;> omega) | fail) only [vop_move, vcallee_move, vop_assign, vcallee_assign, vop_binOp, vcallee_binOp, bin2_int, strip_pv, optV_none, ev_tmp, ev_const, ofConst_int, put_some, at_mk, fits_some, ↓look_cons, ↓vlook_t, ↓vlook_f, guard_none, ↓vrun_nil, ↓code_region, ↓onNormal_normal, ↓onBlock_normal, bin_int, int_add, int_xor, int_shr, evG_eq, ↓vrun_cons, ↓run1_some, ↓run2_none, ↓run3_some, Option.map_some, Nat.reduceLT, Nat.reduceBEq, Int.reduceToNat, Int.reduceLT, Int.reduceBEq, true_and, Bool.true_and, Bool.cond_self, beq_self_eq_true, wrap_i64_in, dec_t, int_beq_t]
        refine ⟨⟨j + 1, by omega⟩, by show 4 - (j + 1) < 4 - j; omega, ?_⟩
        have e : rndN (j + 1) i = bits .xor .u32 ((rndN j i).fdiv 2) 2197175160 := by rw [rndN, rnd, if_pos hb]
        rw [e]
        exact (by refine ⟨rfl, rfl, by simp, ?_, ?_, .inr ⟨?_, ?_⟩⟩ <;> (repeat' apply And.intro) <;> first | rfl | trivial | (intro _; first | rfl | apply cells_refs | apply tc_refs))
      · simp (config := { maxSteps := 2000000 }) (disch := first | omega | assumption | (simp only [List.length_cons, List.length_nil, Nat.zero_add, Nat.reduceAdd]; done) | (simp only [IntKind.wrap_i64]; omega) | (simp only [List.length_replicate, List.length_set, List.length_append, List.length_cons, List.length_nil, List.length_take, List.length_drop, List.length_map] <;> omega) | fail) only [vop_move, vcallee_move, vop_assign, vcallee_assign, vop_binOp, vcallee_binOp, bin2_int, strip_pv, optV_none, ev_tmp, ev_const, ofConst_int, put_some, at_mk, fits_some, ↓look_cons, ↓vlook_t, ↓vlook_f, guard_none, ↓vrun_nil, ↓code_region, ↓onNormal_normal, ↓onBlock_normal, bin_int, int_add, int_shr, evG_eq, ↓vrun_cons, ↓run1_some, ↓run2_none, ↓run3_some, Option.map_some, Nat.reduceLT, Nat.reduceBEq, Int.reduceToNat, Int.reduceLT, Int.reduceBEq, true_and, Bool.true_and, Bool.cond_self, beq_self_eq_true, wrap_i64_in, dec_t, int_beq_f]
        refine ⟨⟨j + 1, by omega⟩, by show 4 - (j + 1) < 4 - j; omega, ?_⟩
        have e : rndN (j + 1) i = (rndN j i).fdiv 2 := by rw [rndN, rnd, if_neg hb]
        rw [e]
        exact (by refine ⟨rfl, rfl, by simp, ?_, ?_, .inr ⟨?_, ?_⟩⟩ <;> (repeat' apply And.intro) <;> first | rfl | trivial | (intro _; first | rfl | apply cells_refs | apply tc_refs))
    · have hj4 : j = 4 := by omega
      subst hj4
      have hl : i < (tc (tabN i)).length := by rw [tc_len, tabN_len]; omega
      have hs : (tc (tabN i)).set i (.pv (.lit (.int .u32 (rndN 4 i)))) = tc (tabN (i + 1)) := by rw [tc_set, ← tabN_succ i (by omega)]; rfl
      simp (config := { maxSteps := 2000000 }) (disch := first | omega | assumption | (simp only [List.length_cons, List.length_nil, Nat.zero_add, Nat.reduceAdd]; done) | (simp only [IntKind.wrap_i64]; omega) | (simp only [List.length_replicate, List.length_set, List.length_append, List.length_cons, List.length_nil, List.length_take, List.length_drop, List.length_map] <;> omega) | fail) only [vop_move, vcallee_move, vop_store, vcallee_store, vop_binOp, vcallee_binOp, vop_indexAddr, vcallee_indexAddr, bin2_int, strip_pv, strip_ptr, optV_none, ev_tmp, ev_const, ofConst_int, put_some, put_none, at_mk, fits_some, fits_none, ↓look_cons, ↓vlook_t, ↓vlook_f, guard_none, ↓vrun_nil, ↓code_region, ↓code_exit, ↓onNormal_normal, ↓onNormal_exit, ↓onBlock_normal, ↓onBlock_exit, store_ptr, vst_one, blk_zero, blk_succ, set_zero, set_succ, one_pv, iaddr_ptr, viap_some, bin_int, int_add, evG_eq, ↓vrun_cons, ↓run1_some, ↓run2_none, ↓run3_some, Option.map_some, ↓reduceIte, Nat.reduceLT, Nat.reduceBEq, Int.reduceLT, Int.reduceBEq, Int.toNat_natCast, Nat.zero_add, Nat.mul_one, true_and, and_self, Bool.true_and, Bool.and_self, cond_true, Bool.cond_self, beq_self_eq_true, Try.vt34, Try.velem74, wrap_i64_in, dec_t, dec_f, hl, hs]
      exact ⟨⟨i + 1, by omega⟩, by show 16 - (i + 1) < 16 - i; omega, (by refine ⟨rfl, rfl, by simp, ?_, ?_, .inr ⟨?_, ?_⟩⟩ <;> (repeat' apply And.intro) <;> first | rfl | trivial | (intro _; first | rfl | apply cells_refs | apply tc_refs))⟩
  · have hi16 : i = 16 := by omega
    subst hi16
    have ht : (tc (tabN 16)).take 16 = tc (tabN 16) := List.take_of_length_le (by rw [tc_len, tabN_len]; omega)
    have hd : (tc (tabN 0)).drop 16 = [] := List.drop_of_length_le (by rw [tc_len, tabN_len]; omega)
    simp (config := { maxSteps := 2000000 }) (disch := first | omega | assumption | (simp only [List.length_cons, List.length_nil, Nat.zero_add, Nat.reduceAdd]; done) | (simp only [IntKind.wrap_i64]; omega) | (simp only [List.length_replicate, List.length_set, List.length_append, List.length_cons, List.length_nil, List.length_take, List.length_drop, List.length_map] <;> omega) | fail) only [vop_load, vcallee_load, vop_store, vcallee_store, strip_ptr, strip_agg, optV_none, ev_tmp, put_some, put_none, at_mk, fits_some, fits_none, ↓look_cons, ↓vlook_t, ↓vlook_f, guard_none, ↓vrun_nil, ↓code_region, ↓code_seq, ↓code_exit, ↓code_ret, ↓onNormal_normal, ↓onNormal_exit, ↓onBlock_exit, frz_agg, frzHeap_zero, res_one, vres_cell, load_ptr, vld_agg, store_ptr, vst_agg, blk_zero, blk_succ, set_zero, evG_eq, ↓vrun_cons, ↓run1_some, ↓run2_none, ↓run3_some, ↓vpost_ret, vfin_some, vfin2_some, at_hp, V.splice, List.nil_append, List.append_nil, List.take_zero, List.drop_zero, Option.map_some, ↓reduceIte, Nat.reduceLT, Nat.reduceBEq, Int.reduceLT, Int.reduceBEq, Nat.zero_add, and_self, Bool.and_self, cond_true, Bool.cond_self, beq_self_eq_true, Nat.le_refl, Try.vt74, dec_t, dec_f, Ret, DV.nums, tc_len, tabN_len, tc_nums, ht, hd, tc_one, tc_frz]

def half (r : Int) : Int := bits .xor .u32 (r.fdiv (2 ^ min 4 IntKind.u32.bits)) ((tabN 16).getD (bits .and .u32 r 15).toNat 0)
theorem and15 (r : Int) : 0 ≤ bits .and .u32 r 15 ∧ bits .and .u32 r 15 < 16 := by
  have h : bits .and .u32 r 15 = ((BitVec.ofInt 32 r &&& 15#32).toNat : Int) := by
    show IntKind.u32.wrap ((BitVec.ofInt 32 r &&& BitVec.ofInt 32 15).toNat) = _
    have hw : ∀ b : BitVec 32, IntKind.u32.wrap (b.toNat : Int) = (b.toNat : Int) := fun b => by
      have := b.isLt
      simp [IntKind.wrap, IntKind.signed, IntKind.bits]; omega
    exact hw _
  rw [h]
  have : (BitVec.ofInt 32 r &&& 15#32).toNat ≤ 15 := by rw [BitVec.toNat_and]; exact Nat.and_le_right
  omega
def byte1 (r : Int) (b : UInt8) : Int := half (half (bits .xor .u32 r (IntKind.u32.wrap b.toNat)))
def sumR (s : List UInt8) : Int := s.foldl byte1 4294967295
def sumX (s : List UInt8) : Int := bits .xor .u32 4294967295 (sumR s)
theorem sumR_succ (s : List UInt8) (i : Nat) (h : i < s.length) : sumR (s.take (i + 1)) = byte1 (sumR (s.take i)) (s.getD i 0) := by
  rw [sumR, List.take_succ_eq_append_getElem h, List.foldl_append]
  rw [List.getD_eq_getElem?_getD, List.getElem?_eq_getElem h]; rfl

set_option maxHeartbeats 1000000 in
theorem sum_v (s : List UInt8) (hs : s.length ≤ 100000) : VCalls Try.prog 18 [.pv (.str s)] [] (Ret (.int .u32 (sumX s))) := by
  refine vcalls_drop (fn := Try.f18) Try.func18 rfl (by kernel_rfl) (by simp [Try.f18]) ?_
  simp (config := { maxSteps := 2000000 }) (disch := first | omega | assumption | (simp only [List.length_cons, List.length_nil, Nat.zero_add, Nat.reduceAdd]; done) | (simp only [IntKind.wrap_i64]; omega) | (simp only [List.length_replicate, List.length_set, List.length_append, List.length_cons, List.length_nil, List.length_take, List.length_drop, List.length_map] <;> omega) | fail) only [vop_assign, vcallee_assign, vcallee_value, vcal_fn, strip_pv, strip_fn, optV_none, ev_const, ev_func, ofConst_int, put_some, at_mk, fits_some, guard_none, ↓vrun_nil, ↓code_region, ↓code_seq, ↓onNormal_normal, enum_nil, enum_cons, evG_eq, ↓vrun_cons, ↓run1_some, ↓run2_none, ↓run2_some, ↓run3_some, ↓vcg_none, List.map_nil, List.toList_toArray, List.length_nil, List.map_nil, List.append_nil, Nat.reduceLT, Int.reduceLT, Nat.zero_add, true_and, Bool.true_and, Bool.cond_self, dec_t, Try.f18]
  refine vc_pure remainders_v rfl ?_
  simp (config := { maxSteps := 2000000 }) (disch := first | omega | assumption | (simp only [List.length_cons, List.length_nil, Nat.zero_add, Nat.reduceAdd]; done) | (simp only [IntKind.wrap_i64]; omega) | (simp only [List.length_replicate, List.length_set, List.length_append, List.length_cons, List.length_nil, List.length_take, List.length_drop, List.length_map] <;> omega) | fail) only [vop_move, vcallee_move, vop_assign, vcallee_assign, vop_alloc, vcallee_alloc, vop_store, vcallee_store, vop_builtin, vcallee_builtin, strip_pv, strip_ptr, strip_agg, optV_none, ev_tmp, ev_const, ofConst_int, put_some, put_none, at_mk, fits_some, fits_none, ↓look_cons, ↓vlook_t, ↓vlook_f, guard_none, ↓vrun_nil, ↓code_region, ↓code_seq, ↓code_block, ↓code_loop, ↓onNormal_normal, store_ptr, vst_agg, blk_zero, set_zero, alloc_eq, val1_some, allOne_nil, allOne_cons, one_pv, len_str, vls_str, bi_len, evG_eq, ↓vrun_cons, ↓run1_some, ↓run2_none, ↓run3_some, ↓runK_eq, List.map_nil, V.splice, List.length_cons, List.length_nil, List.map_cons, List.map_nil, List.nil_append, List.append_nil, List.take_zero, List.drop_succ_cons, List.drop_nil, Option.map_some, ↓reduceIte, Nat.reduceAdd, Nat.reduceLT, Nat.reduceBEq, Int.reduceLT, Int.reduceAdd, Int.reduceBEq, Nat.zero_add, true_and, and_self, Bool.true_and, Bool.and_self, cond_true, Bool.cond_self, beq_self_eq_true, Nat.le_refl, Try.vkind9, Try.vt74, Try.vzero74, dec_t, tc_len, tabN_len, tc_one]
  refine vloop (fun i : {i : Nat // i ≤ s.length} => ⟨35, 0, [(9, .int .i64 i.1), (8, .int .i64 s.length), (4, .int .u32 (sumR (s.take i.1))), (3, .ptr 0 0), (0, .pv (.str s))], [⟨74, true, tc (tabN 16)⟩]⟩) (fun i => s.length - i.1) ⟨0, by omega⟩ (by refine ⟨rfl, rfl, by simp, ?_, ?_, .inl rfl⟩ <;> (repeat' apply And.intro) <;> first | rfl | trivial) ?_
  intro i
  obtain ⟨i, hi⟩ := i
  dsimp only
  simp (config := { maxSteps := 2000000 }) (disch := first | omega | assumption | (simp only [List.length_cons, List.length_nil, Nat.zero_add, Nat.reduceAdd]; done) | (simp only [IntKind.wrap_i64]; omega) | (simp only [List.length_replicate, List.length_set, List.length_append, List.length_cons, List.length_nil, List.length_take, List.length_drop, List.length_map] <;> omega) | fail) only [vop_binOp, vcallee_binOp, bin2_tmp, strip_pv, optV_none, ev_tmp, put_some, at_mk, fits_some, ↓look_cons, ↓vlook_t, ↓vlook_f, guard_none, ↓vrun_nil, ↓code_region, ↓code_seq, ↓onNormal_normal, bin_int, int_lss, evG_eq, ↓vrun_cons, ↓run1_some, ↓run2_none, ↓run3_some, ↓code_cond, ↓vtest_bool, Option.map_some, Nat.reduceLT, Nat.reduceBEq, Int.reduceLT, Int.reduceBEq, true_and, Bool.true_and, Bool.cond_self, beq_self_eq_true, dec_t]
  refine vbr_split (fun hc => ?_) (fun hc => ?_) <;> simp only [decide_eq_true_eq, decide_eq_false_iff_not, Bool.or_eq_true, Bool.and_eq_true, Bool.or_eq_false_iff, Bool.and_eq_false_imp, Bool.not_eq_true', Bool.not_eq_false', beq_iff_eq, beq_eq_false_iff_ne, bne_iff_ne, bne_eq_false_iff_eq, ne_eq] at hc
  · have hlt : i < s.length := by omega
    have hg : s[i]? = some (s.getD i 0) := by rw [List.getD_eq_getElem?_getD, List.getElem?_eq_getElem hlt]; rfl
    have a1 := and15 (bits .xor .u32 (sumR (s.take i)) (IntKind.u32.wrap (s.getD i 0).toNat))
    have a2 := and15 (half (bits .xor .u32 (sumR (s.take i)) (IntKind.u32.wrap (s.getD i 0).toNat)))
    have t1 := tc_get (tabN 16) (bits .and .u32 (bits .xor .u32 (sumR (s.take i)) (IntKind.u32.wrap (s.getD i 0).toNat)) 15).toNat (by rw [tabN_len]; omega)
    have t2 := tc_get (tabN 16) (bits .and .u32 (half (bits .xor .u32 (sumR (s.take i)) (IntKind.u32.wrap (s.getD i 0).toNat))) 15).toNat (by rw [tabN_len]; omega)
    have hh : ∀ r, bits .xor .u32 (r.fdiv (2 ^ min 4 IntKind.u32.bits)) ((tabN 16).getD (bits .and .u32 r 15).toNat 0) = half r := fun _ => rfl
    simp (config := { maxSteps := 2000000 }) (disch := first | omega | assumption | (simp only [List.length_cons, List.length_nil, Nat.zero_add, Nat.reduceAdd]; done) | (simp only [IntKind.wrap_i64]; omega) | (simp only [List.length_replicate, List.length_set, List.length_append, List.length_cons, List.length_nil, List.length_take, List.length_drop, List.length_map] <;> omega) | fail) only [vop_move, vcallee_move, vop_assign, vcallee_assign, vop_load, vcallee_load, vop_binOp, vcallee_binOp, vop_convert, vcallee_convert, vop_indexAddr, vcallee_indexAddr, vop_index, vcallee_index, conv_pv, bin2_tmp, bin2_int, strip_pv, strip_ptr, optV_none, ev_tmp, ev_const, ofConst_int, put_some, at_mk, fits_some, ↓look_cons, ↓vlook_t, ↓vlook_f, guard_none, ↓vrun_nil, ↓code_skip, ↓code_region, ↓code_seq, ↓code_block, ↓onNormal_normal, ↓onBlock_normal, load_ptr, vld_one, blk_zero, iaddr_ptr, viap_some, index_str, vivs_some, bin_int, int_add, int_and, int_xor, int_shr, conv_int, vci_int, evG_eq, ↓vrun_cons, ↓run1_some, ↓run2_none, ↓run3_some, Option.map_some, Nat.reduceLT, Nat.reduceBEq, Int.reduceToNat, Int.reduceLT, Int.reduceBEq, Int.toNat_natCast, Nat.zero_add, Nat.mul_one, true_and, Bool.true_and, Bool.cond_self, beq_self_eq_true, Try.vkind5, Try.vkind9, Try.vt34, Try.vkind34, Try.velem74, wrap_i64_in, dec_t, hg, t1, t2, hh]
    refine ⟨⟨i + 1, hlt⟩, by show s.length - (i + 1) < s.length - i; omega, ?_⟩
    rw [sumR_succ s i hlt]
    exact (by refine ⟨rfl, rfl, by simp, ?_, ?_, .inr ⟨?_, ?_⟩⟩ <;> (repeat' apply And.intro) <;> first | rfl | trivial | (intro _; first | rfl | apply cells_refs | apply tc_refs))
  · simp (config := { maxSteps := 2000000 }) (disch := first | omega | assumption | (simp only [List.length_cons, List.length_nil, Nat.zero_add, Nat.reduceAdd]; done) | (simp only [IntKind.wrap_i64]; omega) | (simp only [List.length_replicate, List.length_set, List.length_append, List.length_cons, List.length_nil, List.length_take, List.length_drop, List.length_map] <;> omega) | fail) only [vop_move, vcallee_move, vop_assign, vcallee_assign, vop_unOp, vcallee_unOp, strip_pv, optV_none, ev_tmp, put_some, at_mk, fits_some, ↓look_cons, ↓vlook_t, ↓vlook_f, guard_none, ↓vrun_nil, ↓code_region, ↓code_seq, ↓code_exit, ↓code_ret, ↓onNormal_normal, ↓onNormal_exit, ↓onBlock_exit, frz_pv, frzHeap_zero, res_one, vres_tmp, un_xor, evG_eq, ↓vrun_cons, ↓run1_some, ↓run2_none, ↓run3_some, ↓vpost_ret, vfin_some, vfin2_some, at_hp, Option.map_some, ↓reduceIte, Nat.reduceLT, Nat.reduceBEq, Int.reduceLT, Int.reduceBEq, true_and, Bool.true_and, Bool.cond_self, beq_self_eq_true, dec_t, dec_f, Ret, DV.nums]
    rw [List.take_of_length_le (by omega)]
    rfl

theorem acc513 : IntKind.i64.wrap (accX (putL [] 513 2) 0 2) = 513 := by decide +kernel
theorem sum9 : sumX [49, 50, 51, 52, 53, 54, 55, 56, 57] = 3808858755 := by decide +kernel

theorem awake_v : VCalls Try.prog 13 [] [] (Ret (.bool true)) := by
  refine vcalls_drop (fn := Try.f13) Try.func13 rfl (by kernel_rfl) (by simp [Try.f13]) ?_
  simp (config := { maxSteps := 2000000 }) (disch := first | omega | assumption | (simp only [List.length_cons, List.length_nil, Nat.zero_add, Nat.reduceAdd]; done) | (simp only [IntKind.wrap_i64]; omega) | (simp only [List.length_replicate, List.length_set, List.length_append, List.length_cons, List.length_nil, List.length_take, List.length_drop, List.length_map] <;> omega) | fail) only [vop_assign, vcallee_assign, vcallee_value, vcal_fn, strip_pv, strip_fn, optV_none, ev_const, ev_func, ofConst_int, ofConst_bool, ofConst_string, put_some, at_mk, fits_some, guard_none, ↓vrun_nil, ↓code_region, ↓code_seq, ↓onNormal_normal, enum_nil, evG_eq, ↓vrun_cons, ↓run1_some, ↓run2_none, ↓run2_some, ↓run3_some, ↓vcg_none, List.map_nil, List.toList_toArray, List.length_nil, List.map_cons, List.map_nil, List.nil_append, List.append_nil, Nat.reduceLT, Int.reduceLT, true_and, Bool.true_and, Bool.cond_self, dec_t, Try.f13]
  refine vc_pure (put_v [] (by simp) 513 2 (by omega) (by omega)) rfl ?_
  simp (config := { maxSteps := 2000000 }) (disch := first | omega | assumption | (simp only [List.length_cons, List.length_nil, Nat.zero_add, Nat.reduceAdd]; done) | (simp only [IntKind.wrap_i64]; omega) | (simp only [List.length_replicate, List.length_set, List.length_append, List.length_cons, List.length_nil, List.length_take, List.length_drop, List.length_map] <;> omega) | fail) only [vcallee_value, vcal_fn, strip_pv, strip_fn, ev_tmp, ev_const, ev_func, ofConst_int, put_some, at_mk, fits_some, ↓look_cons, ↓vlook_t, guard_none, evG_eq, ↓vrun_cons, ↓run1_some, ↓run2_some, ↓runK_eq, ↓vcg_none, List.map_nil, List.map_cons, List.map_nil, List.nil_append, List.append_nil, Nat.reduceLT, Int.reduceLT, true_and, Bool.true_and, beq_self_eq_true, dec_t]
  have hg := get_v (putL [] 513 2) (by rw [putL_len]; simp) 0 2 (by omega) (by rw [putL_len]; simp)
  rw [acc513] at hg
  refine vc_pure hg rfl ?_
  simp (config := { maxSteps := 2000000 }) (disch := first | omega | assumption | (simp only [List.length_cons, List.length_nil, Nat.zero_add, Nat.reduceAdd]; done) | (simp only [IntKind.wrap_i64]; omega) | (simp only [List.length_replicate, List.length_set, List.length_append, List.length_cons, List.length_nil, List.length_take, List.length_drop, List.length_map] <;> omega) | fail) only [vop_move, vcallee_move, vop_assign, vcallee_assign, vop_extract, vcallee_extract, vcallee_value, vcal_fn, strip_pv, strip_tup, strip_fn, optV_none, ev_tmp, ev_const, ev_func, ofConst_string, put_some, at_mk, fits_some, ↓look_cons, ↓vlook_t, ↓vlook_f, guard_none, ↓vrun_nil, ↓code_region, ↓code_seq, ↓onNormal_normal, ext_tup, evG_eq, ↓vrun_cons, ↓run1_some, ↓run2_none, ↓run2_some, ↓run3_some, ↓runK_eq, ↓vcg_none, List.map_nil, List.getElem?_cons_zero, List.getElem?_cons_succ, List.map_cons, List.map_nil, List.nil_append, List.append_nil, Option.map_some, Nat.reduceLT, Nat.reduceBEq, Int.reduceLT, Int.reduceBEq, true_and, Bool.true_and, Bool.cond_self, beq_self_eq_true, dec_t]
  have hs := sum_v [49, 50, 51, 52, 53, 54, 55, 56, 57] (by simp)
  rw [sum9] at hs
  refine vc_pure hs rfl ?_
  simp (config := { maxSteps := 2000000 }) (disch := first | omega | assumption | (simp only [List.length_cons, List.length_nil, Nat.zero_add, Nat.reduceAdd]; done) | (simp only [IntKind.wrap_i64]; omega) | (simp only [List.length_replicate, List.length_set, List.length_append, List.length_cons, List.length_nil, List.length_take, List.length_drop, List.length_map] <;> omega) | fail) only [vop_move, vcallee_move, vop_assign, vcallee_assign, vop_pick, vcallee_pick, vop_binOp, vcallee_binOp, bin2_int, vpick_bool, strip_pv, strip_opt, vstr_true, optV_none, optV_some, pickV_bool, ev_tmp, ev_const, ofConst_int, ofConst_bool, put_some, at_mk, fits_some, ↓look_cons, ↓vlook_t, ↓vlook_f, guard_none, guard_some, vgof_bool, ↓vrun_nil, ↓code_ret, ↓onNormal_normal, frz_pv, frzHeap_zero, res_one, vres_tmp, bin_int, int_eql, evG_eq, ↓vrun_cons, ↓run1_some, ↓run2_none, ↓run3_some, ↓runK_eq, ↓vpost_ret, vfin_some, vfin2_some, at_hp, List.getElem?_cons_zero, List.getElem?_cons_succ, Option.map_some, Option.bind_some, Nat.reduceLT, Nat.reduceBEq, Int.reduceLT, Int.reduceBEq, and_self, or_true, Bool.not_true, Bool.or_true, Bool.and_self, cond_true, Bool.cond_self, beq_self_eq_true, dec_t, Ret, DV.nums]
end Go.Proofs.Ytmdjgpnonhbfdaa

namespace Go.Proofs.Ytmdjgpnonhbfdaa
open Go.V Go
set_option maxRecDepth 100000
set_option linter.unusedSimpArgs false

end Go.Proofs.Ytmdjgpnonhbfdaa

namespace Go.Proofs.Ytmdjgpnonhbfdaa
open Go.V Go
set_option linter.unusedSimpArgs false

end Go.Proofs.Ytmdjgpnonhbfdaa

namespace Go.Proofs.Ytmdjgpnonhbfdaa
open Go.V Go
set_option maxRecDepth 100000
set_option linter.unusedSimpArgs false

theorem rnd_b (x : BitVec 32) : rnd (x.toNat : Int) = ((rb x).toNat : Int) := by
  have h1 : bits .and .u32 (x.toNat : Int) 1 = ((x &&& 1#32).toNat : Int) := and32 x 1#32
  have h2 : (x.toNat : Int).fdiv 2 = ((x >>> 1).toNat : Int) := shr32 x 1
  have h3 : (x &&& 1#32).toNat = x.toNat % 2 := by rw [BitVec.toNat_and]; exact Nat.and_one_is_mod _
  have h4 : x.getLsbD 0 = decide (x.toNat % 2 = 1) := by simp [BitVec.getLsbD, Nat.testBit_zero]
  unfold rnd rb
  rw [h1, h2, h3, h4]
  by_cases h : x.toNat % 2 = 1
  · rw [if_pos (by omega), if_pos (by simpa using h)]
    exact xor32 _ polyB
  · rw [if_neg (by omega), if_neg (by simpa using h)]; simp
theorem rndN_b (n : Nat) (x : BitVec 32) : rndN n (x.toNat : Int) = ((rbN n x).toNat : Int) := by
  induction n with
  | zero => rfl
  | succ n ih => rw [rndN, ih, rnd_b]; rfl

theorem half_b (x : BitVec 32) : half (x.toNat : Int) = ((rbN 4 x).toNat : Int) := by
  have h1 : bits .and .u32 (x.toNat : Int) 15 = ((x &&& 15#32).toNat : Int) := and32 x 15#32
  have h15 : (x &&& 15#32).toNat < 16 := by rw [BitVec.toNat_and]; exact Nat.lt_succ_of_le Nat.and_le_right
  have h2 : (tabN 16).getD (x &&& 15#32).toNat 0 = ((rbN 4 (x &&& 15#32)).toNat : Int) := by
    rw [← rndN_b]
    simp only [tabN, List.getD_eq_getElem?_getD, List.getElem?_map, List.getElem?_range h15, Option.map_some, Option.getD_some, rem16]
    rw [if_pos h15]
  have h3 : (x.toNat : Int).fdiv (2 ^ min 4 IntKind.u32.bits) = ((x >>> 4).toNat : Int) := shr32 x 4
  have e1 : x = (x &&& 15#32) ^^^ ((x >>> 4) <<< 4) := by
    apply BitVec.eq_of_getLsbD_eq
    intro i hi
    rw [BitVec.getLsbD_xor, BitVec.getLsbD_and, BitVec.getLsbD_shiftLeft, BitVec.getLsbD_ushiftRight]
    by_cases h : i < 4
    · have h15 : (15#32).getLsbD i = true := by
        rcases i with _ | _ | _ | _ | i <;> first | rfl | omega
      simp [h15, h]
    · have h15 : (15#32).getLsbD i = false := by
        have : (15#32).getLsbD i = (15 : Nat).testBit i := by simp [BitVec.getLsbD]
        rw [this]; apply Nat.testBit_lt_two_pow
        exact Nat.lt_of_lt_of_le (show 15 < 2 ^ 4 by omega) (Nat.pow_le_pow_right (by omega) (by omega))
      rw [h15]; simp [h, hi, show 4 + (i - 4) = i by omega]
  have e2 : rbN 4 x = rbN 4 (x &&& 15#32) ^^^ (x >>> 4) := by
    have hs : rbN 4 ((x >>> 4) <<< 4) = x >>> 4 := shl_low _ _ (fun i hi => by rw [BitVec.getLsbD_ushiftRight]; exact BitVec.getLsbD_of_ge _ _ (by omega)) (by omega)
    conv => lhs; rw [e1]
    rw [rbN_xor, hs]
  unfold half
  rw [h1, h3, Int.toNat_natCast, h2, xor32, e2, BitVec.xor_comm]

theorem byte1_b (x : BitVec 32) (b : UInt8) : byte1 (x.toNat : Int) b = ((cb x b).toNat : Int) := by
  unfold byte1
  rw [b32_nat, xor32, half_b, half_b, ← rbN_add]; rfl
theorem fold_b : ∀ (s : List UInt8) (x : BitVec 32), s.foldl byte1 (x.toNat : Int) = ((s.foldl cb x).toNat : Int)
  | [], _ => rfl
  | b :: s, x => by rw [List.foldl_cons, byte1_b, fold_b s, List.foldl_cons]
theorem sumR_b (s : List UInt8) : sumR s = ((s.foldl cb 4294967295#32).toNat : Int) := fold_b s 4294967295#32
theorem sumX_b (s : List UInt8) : sumX s = ((4294967295#32 ^^^ s.foldl cb 4294967295#32).toNat : Int) := by
  rw [sumX, sumR_b]; exact xor32 4294967295#32 _
theorem sumX_inj {p a b q : List UInt8} (hl : a.length = b.length) (h4 : a.length ≤ 4) (h : sumX (p ++ a ++ q) = sumX (p ++ b ++ q)) : a = b := by
  rw [sumX_b, sumX_b] at h
  have h1 : (4294967295#32 ^^^ (p ++ a ++ q).foldl cb 4294967295#32) = (4294967295#32 ^^^ (p ++ b ++ q).foldl cb 4294967295#32) := BitVec.eq_of_toNat_eq (by omega)
  have h2 := congrArg (4294967295#32 ^^^ ·) h1
  simp only [← BitVec.xor_assoc, BitVec.xor_self, BitVec.zero_xor] at h2
  exact crc_window hl h4 h2

end Go.Proofs.Ytmdjgpnonhbfdaa

namespace Go.Proofs.Ytmdjgpnonhbfdaa
open Go.V Go
set_option maxRecDepth 100000
set_option linter.unusedSimpArgs false

end Go.Proofs.Ytmdjgpnonhbfdaa

namespace Go.Proofs.Ytmdjgpnonhbfdaa
open Go.V Go
set_option linter.unusedSimpArgs false

theorem xor8 (x y : UInt8) : bits .xor .u8 (x.toNat : Int) (y.toNat : Int) = ((x ^^^ y).toNat : Int) := by
  show IntKind.u8.wrap ((BitVec.ofInt 8 (x.toNat : Int) ^^^ BitVec.ofInt 8 (y.toNat : Int)).toNat : Int) = _
  have h : ∀ z : UInt8, BitVec.ofInt 8 (z.toNat : Int) = z.toBitVec := fun z => by
    apply BitVec.eq_of_toNat_eq
    have := z.toNat_lt
    simp
  rw [h, h, wrap_u8_eq]
  have e : (x.toBitVec ^^^ y.toBitVec).toNat = (x ^^^ y).toNat := rfl
  have := (x ^^^ y).toNat_lt
  rw [e]; omega
theorem xor_ne (x y : UInt8) (h : y ≠ 0) : x ^^^ y ≠ x := fun e => h (by
  have e2 : x ^^^ (x ^^^ y) = x ^^^ x := by rw [e]
  rwa [← UInt8.xor_assoc, UInt8.xor_self, UInt8.zero_xor] at e2)

/-- A frame: what is summed, and the sum. -/
def hd (p : List UInt8) : List UInt8 := putL [] p.length 4 ++ p
/-! ### Up to four bytes side by side -/
section
variable (s bs : List UInt8) (k0 : Nat)
def upd : Nat → List UInt8
  | 0 => s
  | i + 1 => if k0 + i < s.length then (upd i).set (k0 + i) ((upd i).getD (k0 + i) 0 ^^^ bs.getD i 0) else upd i
def chg : Nat → Bool
  | 0 => false
  | i + 1 => if k0 + i < s.length then chg i || decide (bs.getD i 0 ≠ 0) else chg i
theorem upd_len : ∀ i, (upd s bs k0 i).length = s.length
  | 0 => rfl
  | i + 1 => by rw [upd]; split <;> simp [upd_len i]
theorem upd_get : ∀ i j, j < s.length → (upd s bs k0 i).getD j 0 = if k0 ≤ j ∧ j < k0 + i then s.getD j 0 ^^^ bs.getD (j - k0) 0 else s.getD j 0
  | 0, j, _ => by rw [upd, if_neg (by omega)]
  | i + 1, j, hj => by
    have ih := upd_get i
    rw [upd]
    split
    · rename_i hlt
      rw [getD_set _ _ _ _ _ (by rw [upd_len]; exact hlt)]
      by_cases e : k0 + i = j
      · subst e
        rw [if_pos rfl, if_pos (by omega), ih _ hj, if_neg (by omega), Nat.add_sub_cancel_left]
      · rw [if_neg e, ih j hj]
        by_cases c : k0 ≤ j ∧ j < k0 + i
        · rw [if_pos c, if_pos (by omega)]
        · rw [if_neg c, if_neg (by omega)]
    · rename_i hlt
      rw [ih j hj]
      by_cases c : k0 ≤ j ∧ j < k0 + i
      · rw [if_pos c, if_pos (by omega)]
      · rw [if_neg c, if_neg (by omega)]
theorem chg_false : ∀ i, chg s bs k0 i = false → ∀ j, j < i → k0 + j < s.length → bs.getD j 0 = 0
  | 0, _, j, hj, _ => by omega
  | i + 1, h, j, hj, hl => by
    rw [chg] at h
    by_cases e : j = i
    · subst e
      rw [if_pos hl] at h
      simpa using (Bool.or_eq_false_iff.1 h).2
    · split at h
      · exact chg_false i (Bool.or_eq_false_iff.1 h).1 j (by omega) hl
      · exact chg_false i h j (by omega) hl
theorem chg_true : ∀ i, chg s bs k0 i = true → ∃ j, j < i ∧ k0 + j < s.length ∧ bs.getD j 0 ≠ 0
  | 0, h => by simp [chg] at h
  | i + 1, h => by
    rw [chg] at h
    split at h
    · rename_i hl
      rcases Bool.or_eq_true_iff.1 h with h | h
      · obtain ⟨j, h1, h2, h3⟩ := chg_true i h; exact ⟨j, by omega, h2, h3⟩
      · exact ⟨i, by omega, hl, by simpa using h⟩
    · obtain ⟨j, h1, h2, h3⟩ := chg_true i h; exact ⟨j, by omega, h2, h3⟩
theorem getD_ext {a b : List UInt8} (hl : a.length = b.length) (h : ∀ j, j < a.length → a.getD j 0 = b.getD j 0) : a = b := by
  apply List.ext_getElem hl
  intro i h1 h2
  have := h i h1
  simpa [List.getD_eq_getElem?_getD, List.getElem?_eq_getElem h1, List.getElem?_eq_getElem h2] using this
theorem upd_sum (hk : k0 < s.length) : decide (sumX (upd s bs k0 4) = sumX s) = !chg s bs k0 4 := by
  have hl := upd_len s bs k0 4
  have hg := upd_get s bs k0 4
  cases hc : chg s bs k0 4 with
  | false =>
    have e : upd s bs k0 4 = s := getD_ext hl fun j hj => by
      rw [hg j (by omega)]
      split
      · rename_i c
        rw [chg_false s bs k0 4 hc (j - k0) (by omega) (by omega), UInt8.xor_zero]
      · rfl
    rw [e]; simp
  | true =>
    obtain ⟨j, hj, hjl, hb⟩ := chg_true s bs k0 4 hc
    simp only [Bool.not_true, decide_eq_false_iff_not]
    generalize upd s bs k0 4 = t at hl hg
    intro e
    have m : ∃ m, m = min 4 (s.length - k0) := ⟨_, rfl⟩
    obtain ⟨m, hm⟩ := m
    have dec : ∀ l : List UInt8, l = l.take k0 ++ (l.drop k0).take m ++ l.drop (k0 + m) := fun l => by
      rw [List.append_assoc, ← List.drop_drop, List.take_append_drop, List.take_append_drop]
    have e1 : t.take k0 = s.take k0 := getD_ext (by simp [hl]) fun i hi => by
      have hi' : i < k0 ∧ i < t.length := by rw [List.length_take] at hi; omega
      rw [List.getD_eq_getElem?_getD, List.getD_eq_getElem?_getD, List.getElem?_take, List.getElem?_take, if_pos hi'.1, if_pos hi'.1, ← List.getD_eq_getElem?_getD, ← List.getD_eq_getElem?_getD, hg i (by omega), if_neg (by omega)]
    have e2 : t.drop (k0 + m) = s.drop (k0 + m) := getD_ext (by simp [hl]) fun i hi => by
      have hi' : i < t.length - (k0 + m) := by simpa [List.length_drop] using hi
      rw [List.getD_eq_getElem?_getD, List.getD_eq_getElem?_getD, List.getElem?_drop, List.getElem?_drop, ← List.getD_eq_getElem?_getD, ← List.getD_eq_getElem?_getD, hg _ (by omega), if_neg (by omega)]
    have e3 : sumX (s.take k0 ++ (t.drop k0).take m ++ s.drop (k0 + m)) = sumX (s.take k0 ++ (s.drop k0).take m ++ s.drop (k0 + m)) := by
      rw [← dec s, ← e, ← e1, ← e2, ← dec t]
    have e4 := sumX_inj (by simp [hl]) (by simp; omega) e3
    have e5 : t = s := by rw [dec t, dec s, e1, e2, e4]
    have := hg (k0 + j) hjl
    rw [if_pos (by omega), e5, Nat.add_sub_cancel_left] at this
    exact xor_ne _ _ hb this.symm
end
end Go.Proofs.Ytmdjgpnonhbfdaa

namespace Go.Proofs.Ytmdjgpnonhbfdaa
open Go.V Go
set_option maxRecDepth 100000
set_option linter.unusedSimpArgs false

end Go.Proofs.Ytmdjgpnonhbfdaa

namespace Go.Proofs.Ytmdjgpnonhbfdaa
open Go.V Go
set_option maxRecDepth 100000
set_option pp.deepTerms true
set_option pp.deepTerms.threshold 100000
set_option pp.maxSteps 1000000
set_option pp.proofs false
set_option linter.unusedSimpArgs false

theorem cellsU_set (l : List UInt8) (i : Nat) (b : UInt8) : (cells encU l).set i (.pv (.lit (.int .u8 b.toNat))) = cells encU (l.set i b) := by rw [cellsU, cellsU, List.map_set]
theorem cellsU_bytes (l : List UInt8) : (l.map fun b => DV.int .u8 b.toNat) = cells encU l := (cellsU l).symm
theorem u8_ne0 (y : UInt8) : ((y.toNat : Int) != 0) = decide (y ≠ 0) := by
  by_cases h : y = 0
  · subst h; decide
  · rw [decide_eq_true h, bne_iff_ne]
    intro e
    exact h (UInt8.toNat_inj.1 (by show y.toNat = 0; omega))
theorem vseqB {P : Program} {a b : Code} {Q : Exit → St → Prop} {S : St} (h : VWp P a (onNormal Q fun S' => ∃ S'', Weak S' S'' ∧ VWp P b Q S'') S) : VWp P (.seq a b) Q S := fun O β ac w hs => by
  refine wp_seq (wp_mono (h O β ac w hs) fun e a' w' hq => ?_)
  obtain ⟨β', S', hs', hq⟩ := hq
  cases e with
  | normal =>
    obtain ⟨S'', hw, hk⟩ := hq
    exact hk.weak hw O β' a' w' hs'
  | _ => exact ⟨β', S', hs', hq⟩

noncomputable abbrev CPost : Exit → St → Prop := vpost Try.prog [ResultVar.tmp 6] 0 (Ret (.bool true))
def cst0 (s : List UInt8) (a : Int) (bs : List UInt8) : St := ⟨68, 0, [(6, .bool false), (5, .ptr 0 0), (1, .int .u16 a), (0, .pv (.str s))], [⟨32, true, cells encU bs⟩]⟩
def cst3 (s : List UInt8) (a : Int) (bs : List UInt8) : St := ⟨68, 0, [(7, .own 1 1 0 s.length), (5, .ptr 0 0), (1, .int .u16 a), (0, .pv (.str s))], [⟨32, true, cells encU bs⟩, ⟨5, true, cells encU s⟩]⟩

set_option maxHeartbeats 4000000 in
theorem csum_rest (s : List UInt8) (hs : s.length ≤ 500) (a : Int) (ha : 0 ≤ a ∧ a ≤ 65535) (bs : List UInt8) (hbs : bs.length = 4) : VWp Try.prog (sndc (sndc (sndc (bodyc Try.f5)))) CPost (cst3 s a bs) := by
  refine vcode_sound _ _ _ ?_
  simp (config := { maxSteps := 2000000 }) (disch := first | omega | assumption | (simp only [List.length_cons, List.length_nil, Nat.zero_add, Nat.reduceAdd]; done) | (simp only [IntKind.wrap_i64]; omega) | (simp only [List.length_replicate, List.length_set, List.length_append, List.length_cons, List.length_nil, List.length_take, List.length_drop, List.length_map] <;> omega) | fail) only [vop_assign, vcallee_assign, strip_pv, optV_none, ev_const, ofConst_int, ofConst_bool, put_some, at_mk, fits_some, guard_none, ↓vrun_nil, ↓code_region, ↓code_seq, ↓code_block, ↓code_loop, ↓onNormal_normal, evG_eq, ↓vrun_cons, ↓run1_some, ↓run2_none, ↓run3_some, Nat.reduceLT, Int.reduceLT, true_and, Bool.true_and, Bool.cond_self, dec_t, sndc_seq, bodyc, Try.f5, cst3]
  have hk0 : s.length = 0 ∨ ∃ k0 : Nat, k0 < s.length ∧ a.tmod (s.length : Int) = k0 := by
    by_cases h : s.length = 0
    · exact .inl h
    · refine .inr ⟨(a % (s.length : Int)).toNat, ?_, ?_⟩
      · have := Int.emod_lt_of_pos a (show 0 < (s.length : Int) by omega)
        have := Int.emod_nonneg a (show (s.length : Int) ≠ 0 by omega)
        omega
      · rw [tmod_n ha.1]
        have := Int.emod_nonneg a (show (s.length : Int) ≠ 0 by omega)
        omega
  rcases hk0 with h0 | ⟨k0, hk0, hkm⟩
  · obtain rfl : s = [] := List.eq_nil_of_length_eq_zero h0
    refine vloop (fun _ : Unit => ⟨68, 0, [(9, .int .i64 0), (8, .bool false), (7, .own 1 1 0 0), (5, .ptr 0 0), (1, .int .u16 a), (0, .pv (.str []))], [⟨32, true, cells encU bs⟩, ⟨5, true, cells encU []⟩]⟩) (fun _ => 0) () (by refine ⟨rfl, rfl, by simp, ?_, ?_, .inr ⟨?_, ?_⟩⟩ <;> (repeat' apply And.intro) <;> first | rfl | trivial | (intro _; first | rfl | apply cells_refs)) ?_
    rintro ⟨⟩
    simp (config := { maxSteps := 2000000 }) (disch := first | omega | assumption | (simp only [List.length_cons, List.length_nil, Nat.zero_add, Nat.reduceAdd]; done) | (simp only [IntKind.wrap_i64]; omega) | (simp only [List.length_replicate, List.length_set, List.length_append, List.length_cons, List.length_nil, List.length_take, List.length_drop, List.length_map] <;> omega) | fail) only [vop_move, vcallee_move, vop_pick, vcallee_pick, vop_binOp, vcallee_binOp, vop_convert, vcallee_convert, vop_builtin, vcallee_builtin, bin2_int, conv_own, vpick_bool, strip_pv, strip_own, strip_opt, vstr_true, optV_none, optV_some, pickV_bool, ev_tmp, ev_const, ofConst_int, ofConst_bool, put_some, at_mk, fits_some, ↓look_cons, ↓vlook_t, ↓vlook_f, guard_none, guard_some, vgof_bool, ↓vrun_nil, ↓code_region, ↓code_seq, ↓code_exit, ↓onNormal_normal, ↓onNormal_exit, ↓onBlock_exit, bin_int, int_lss, int_gtr, len_str, vls_str, bi_len, evG_eq, ↓vrun_cons, ↓run1_some, ↓run2_none, ↓run3_some, ↓code_cond, ↓vtest_bool, ↓vbr_false, List.map_nil, List.getElem?_cons_zero, List.getElem?_cons_succ, List.length_nil, List.map_cons, List.map_nil, Option.map_some, Option.bind_some, ↓reduceIte, Nat.reduceLT, Nat.reduceBEq, Int.reduceLT, Int.reduceBEq, true_and, false_and, or_true, Bool.not_true, Bool.or_true, Bool.true_and, Bool.false_and, Bool.cond_self, beq_self_eq_true, Nat.lt_irrefl, Try.vkind9, dec_t, dec_f]
    have hv0 := fun hp => vcso_cells (hp := hp) (l := []) (n := 0) rfl
    simp (config := { maxSteps := 2000000 }) (disch := first | omega | assumption | (simp only [List.length_cons, List.length_nil, Nat.zero_add, Nat.reduceAdd]; done) | (simp only [IntKind.wrap_i64]; omega) | (simp only [List.length_replicate, List.length_set, List.length_append, List.length_cons, List.length_nil, List.length_take, List.length_drop, List.length_map] <;> omega) | fail) only [vcallee_value, vcal_fn, strip_pv, strip_fn, optV_none, ev_tmp, ev_func, put_some, at_mk, fits_some, ↓look_cons, ↓vlook_t, guard_none, blk_zero, blk_succ, evG_eq, ↓vrun_cons, ↓run1_some, ↓run2_some, ↓run3_some, ↓vcg_none, List.map_nil, List.map_cons, List.map_nil, List.nil_append, List.append_nil, Nat.reduceLT, Int.reduceLT, true_and, Bool.true_and, Bool.cond_self, beq_self_eq_true, dec_t, conv_bts btsF, hv0]
    refine vc_pure (sum_v [] (by simp)) rfl ?_
    simp (config := { maxSteps := 2000000 }) (disch := first | omega | assumption | (simp only [List.length_cons, List.length_nil, Nat.zero_add, Nat.reduceAdd]; done) | (simp only [IntKind.wrap_i64]; omega) | (simp only [List.length_replicate, List.length_set, List.length_append, List.length_cons, List.length_nil, List.length_take, List.length_drop, List.length_map] <;> omega) | fail) only [vop_move, vcallee_move, vcallee_value, vcal_fn, strip_pv, strip_fn, optV_none, ev_tmp, ev_func, put_some, at_mk, fits_some, ↓look_cons, ↓vlook_t, ↓vlook_f, guard_none, evG_eq, ↓vrun_cons, ↓run1_some, ↓run2_none, ↓run2_some, ↓run3_some, ↓runK_eq, ↓vcg_none, List.map_nil, List.map_cons, List.map_nil, List.nil_append, List.append_nil, Nat.reduceLT, Nat.reduceBEq, Int.reduceLT, Int.reduceBEq, true_and, Bool.true_and, Bool.cond_self, beq_self_eq_true, dec_t]
    refine vc_pure (sum_v [] (by simp)) rfl ?_
    simp (config := { maxSteps := 2000000 }) (disch := first | omega | assumption | (simp only [List.length_cons, List.length_nil, Nat.zero_add, Nat.reduceAdd]; done) | (simp only [IntKind.wrap_i64]; omega) | (simp only [List.length_replicate, List.length_set, List.length_append, List.length_cons, List.length_nil, List.length_take, List.length_drop, List.length_map] <;> omega) | fail) only [vop_move, vcallee_move, vop_assign, vcallee_assign, vop_binOp, vcallee_binOp, vop_unOp, vcallee_unOp, bin2_tmp, strip_pv, optV_none, ev_tmp, put_some, at_mk, fits_some, ↓look_cons, ↓vlook_t, ↓vlook_f, guard_none, ↓vrun_nil, ↓code_ret, ↓onNormal_normal, frz_pv, frzHeap_zero, res_one, vres_tmp, bin_int, int_eql, un_not, evG_eq, ↓vrun_cons, ↓run1_some, ↓run2_none, ↓run3_some, ↓runK_eq, ↓vpost_ret, vfin_some, vfin2_some, at_hp, bin_bool, vbb_eql, Option.map_some, Nat.reduceLT, Nat.reduceBEq, Int.reduceLT, Int.reduceBEq, and_self, Bool.not_false, Bool.and_self, Bool.cond_self, beq_self_eq_true, Try.vkind4, dec_t, Ret, DV.nums]
  · refine vloop (fun i : {i : Nat // i ≤ 4} => ⟨68, 0, [(9, .int .i64 i.1), (8, .bool (chg s bs k0 i.1)), (7, .own 1 1 0 s.length), (5, .ptr 0 0), (1, .int .u16 a), (0, .pv (.str s))], [⟨32, true, cells encU bs⟩, ⟨5, true, cells encU (upd s bs k0 i.1)⟩]⟩) (fun i => 4 - i.1) ⟨0, by omega⟩ (by refine ⟨rfl, rfl, by simp, ?_, ?_, .inr ⟨?_, ?_⟩⟩ <;> (repeat' apply And.intro) <;> first | rfl | trivial | (intro _; first | rfl | apply cells_refs)) ?_
    rintro ⟨i, hi⟩
    dsimp only
    have hul := upd_len s bs k0 i
    simp (config := { maxSteps := 2000000 }) (disch := first | omega | assumption | (simp only [List.length_cons, List.length_nil, Nat.zero_add, Nat.reduceAdd]; done) | (simp only [IntKind.wrap_i64]; omega) | (simp only [List.length_replicate, List.length_set, List.length_append, List.length_cons, List.length_nil, List.length_take, List.length_drop, List.length_map] <;> omega) | fail) only [vop_move, vcallee_move, vop_pick, vcallee_pick, vop_binOp, vcallee_binOp, vop_builtin, vcallee_builtin, bin2_int, vpick_bool, strip_pv, strip_opt, strip_vstr, vstr_true, optV_none, optV_some, pickV_bool, ev_tmp, ev_const, ofConst_int, ofConst_bool, put_some, at_mk, fits_some, ↓look_cons, ↓vlook_t, ↓vlook_f, guard_none, guard_some, vgof_bool, ↓vrun_nil, ↓code_region, ↓code_seq, ↓onNormal_normal, bin_int, int_lss, int_gtr, len_str, vls_str, bi_len, evG_eq, ↓vrun_cons, ↓run1_some, ↓run2_none, ↓run3_some, ↓code_cond, ↓vtest_bool, List.map_nil, List.getElem?_cons_zero, List.getElem?_cons_succ, List.map_cons, List.map_nil, Option.map_some, Option.bind_some, Nat.reduceLT, Nat.reduceBEq, Int.reduceLT, Int.reduceBEq, true_and, and_true, or_true, false_or, Bool.not_true, Bool.or_true, Bool.false_or, Bool.and_true, Bool.true_and, Bool.not_or_self, b_beq_t, Bool.cond_self, Bool.cond_false_right, beq_self_eq_true, Try.vkind9, dec_t]
    refine vbr_split (fun hc => ?_) (fun hc => ?_) <;> simp only [decide_eq_true_eq, decide_eq_false_iff_not, Bool.or_eq_true, Bool.and_eq_true, Bool.or_eq_false_iff, Bool.and_eq_false_imp, Bool.not_eq_true', Bool.not_eq_false', beq_iff_eq, beq_eq_false_iff_ne, bne_iff_ne, bne_eq_false_iff_eq, ne_eq] at hc
    · have hs0 : ¬ (s.length : Int) = 0 := by omega
      have hs1 : ¬ (s.length : Int) ≤ 0 := by omega
      have hs2 : (0 : Int) < s.length := by omega
      simp (config := { maxSteps := 2000000 }) (disch := first | omega | assumption | (simp only [List.length_cons, List.length_nil, Nat.zero_add, Nat.reduceAdd]; done) | (simp only [IntKind.wrap_i64]; omega) | (simp only [List.length_replicate, List.length_set, List.length_append, List.length_cons, List.length_nil, List.length_take, List.length_drop, List.length_map] <;> omega) | fail) only [vop_move, vcallee_move, vop_assign, vcallee_assign, vop_binOp, vcallee_binOp, vop_convert, vcallee_convert, vop_builtin, vcallee_builtin, conv_pv, bin2_tmp, strip_pv, optV_none, ev_tmp, put_some, at_mk, fits_some, ↓look_cons, ↓vlook_t, ↓vlook_f, guard_none, ↓vrun_nil, ↓code_skip, ↓code_region, ↓code_seq, ↓code_block, ↓onNormal_normal, bin_int, int_add, int_lss, int_rem, len_str, vls_str, bi_len, conv_int, vci_int, evG_eq, ↓vrun_cons, ↓run1_some, ↓run2_none, ↓run3_some, ↓code_cond, ↓vtest_bool, List.map_nil, List.map_cons, List.map_nil, Option.map_some, Nat.reduceLT, Nat.reduceBEq, Int.reduceLT, Int.reduceBEq, true_and, Bool.true_and, Bool.cond_self, beq_self_eq_true, Try.vkind3, Try.vkind9, Try.vkind31, wrap_i64_in, dec_t, hkm]
      by_cases hlt : k0 + i < s.length
      · have g1 := cellsU_get (upd s bs k0 i) (k0 + i) (by omega)
        have g2 := cellsU_get bs i (by omega)
        have e1 : ((k0 : Int) + i).toNat = k0 + i := by omega
        have hlt' : (k0 : Int) + i < s.length := by omega
        simp (config := { maxSteps := 2000000 }) (disch := first | omega | assumption | (simp only [List.length_cons, List.length_nil, Nat.zero_add, Nat.reduceAdd]; done) | (simp only [IntKind.wrap_i64]; omega) | (simp only [List.length_replicate, List.length_set, List.length_append, List.length_cons, List.length_nil, List.length_take, List.length_drop, List.length_map] <;> omega) | fail) only [↓code_draw, ↓code_seq, ↓vbr_true, dec_t, hlt']
        refine vdraw (by kernel_rfl) (by kernel_rfl) ?_
        simp (config := { maxSteps := 2000000 }) (disch := first | omega | assumption | (simp only [List.length_cons, List.length_nil, Nat.zero_add, Nat.reduceAdd]; done) | (simp only [IntKind.wrap_i64]; omega) | (simp only [List.length_replicate, List.length_set, List.length_append, List.length_cons, List.length_nil, List.length_take, List.length_drop, List.length_map] <;> omega) | fail) only [vop_move, vcallee_move, okKind_move, foot_move, vop_assign, vcallee_assign, vop_pick, vcallee_pick, vop_load, vcallee_load, okKind_load, vop_store, vcallee_store, okKind_store, vop_binOp, vcallee_binOp, okKind_binOp, foot_binOp, vop_indexAddr, vcallee_indexAddr, okKind_indexAddr, foot_indexAddr, foot_load, foot_store, ptrNo_ptr, bin2_tmp, bin2_int, vpick_bool, strip_pv, strip_ptr, strip_own, strip_opt, strip_vstr, vstr_true, optV_none, optV_some, pickV_bool, ev_tmp, ev_const, ofConst_int, ofConst_bool, put_some, put_none, at_mk, fits_some, fits_none, ↓look_cons, ↓vlook_t, ↓vlook_f, guard_none, guard_some, vgof_bool, ↓vrun_nil, ↓vdr_nil, ↓code_region, ↓onNormal_normal, ↓onBlock_normal, load_ptr, vld_one, store_ptr, vst_one, blk_zero, blk_succ, set_zero, set_succ, one_pv, iaddr_own, viao_some, iaddr_ptr, viap_some, bin_int, int_add, int_xor, int_neq, okc_nil, okc_none, okc_other, okc_one, evG_eq, ↓vrun_cons, ↓run1_some, ↓run2_none, ↓run3_some, ↓vdr_cons, ↓dr1_some, ↓dr2_none, ↓dr3_some, List.getElem?_cons_zero, List.getElem?_cons_succ, List.cons_append, List.nil_append, List.any_nil, List.any_cons, Option.map_some, Option.bind_some, ↓reduceIte, Nat.reduceAdd, Nat.reduceLT, Nat.reduceBEq, Int.reduceLT, Int.reduceAdd, Int.reduceBEq, Int.toNat_natCast, Nat.zero_add, Nat.mul_one, true_and, and_true, and_self, and_false, true_or, or_true, or_false, false_or, or_self, Bool.not_true, Bool.not_false, Bool.or_true, Bool.true_or, Bool.or_false, Bool.false_or, Bool.and_true, Bool.true_and, Bool.and_false, Bool.or_self, Bool.and_self, Bool.or_not_self, Bool.not_not, b_beq_f, cond_true, Bool.cond_self, Bool.cond_true_left, beq_self_eq_true, cellsU_len, Try.vt5, Try.velem32, Try.velem33, wrap_i64_in, dec_t, hul, g1, g2, e1, xor8, cellsU_set, cellsU_len, hlt]
        refine ⟨by decide, ⟨i + 1, by omega⟩, by show 4 - (i + 1) < 4 - i; omega, ?_⟩
        have e2 : upd s bs k0 (i + 1) = (upd s bs k0 i).set (k0 + i) ((upd s bs k0 i).getD (k0 + i) 0 ^^^ bs.getD i 0) := by rw [upd, if_pos hlt]
        have e3 : chg s bs k0 (i + 1) = (chg s bs k0 i || ((bs.getD i 0).toNat : Int) != 0) := by rw [chg, if_pos hlt, u8_ne0]
        dsimp only
        rw [e2, e3]
        exact (by refine ⟨rfl, rfl, by simp, ?_, ?_, .inr ⟨?_, ?_⟩⟩ <;> (repeat' apply And.intro) <;> first | rfl | trivial | (intro _; first | rfl | apply cells_refs))
      · have hlt' : ¬ (k0 : Int) + i < s.length := by omega
        simp (config := { maxSteps := 2000000 }) (disch := first | omega | assumption | (simp only [List.length_cons, List.length_nil, Nat.zero_add, Nat.reduceAdd]; done) | (simp only [IntKind.wrap_i64]; omega) | (simp only [List.length_replicate, List.length_set, List.length_append, List.length_cons, List.length_nil, List.length_take, List.length_drop, List.length_map] <;> omega) | fail) only [vop_move, vcallee_move, vop_assign, vcallee_assign, vop_binOp, vcallee_binOp, bin2_int, strip_pv, optV_none, ev_tmp, ev_const, ofConst_int, put_some, at_mk, fits_some, ↓look_cons, ↓vlook_t, ↓vlook_f, guard_none, ↓vrun_nil, ↓code_skip, ↓code_region, ↓onNormal_normal, ↓onBlock_normal, bin_int, int_add, evG_eq, ↓vrun_cons, ↓run1_some, ↓run2_none, ↓run3_some, ↓vbr_false, Option.map_some, Nat.reduceLT, Nat.reduceBEq, Int.reduceLT, Int.reduceBEq, decide_false, true_and, Bool.true_and, Bool.cond_self, beq_self_eq_true, wrap_i64_in, dec_t, hlt']
        refine ⟨⟨i + 1, by omega⟩, by show 4 - (i + 1) < 4 - i; omega, ?_⟩
        have e2 : upd s bs k0 (i + 1) = upd s bs k0 i := by rw [upd, if_neg hlt]
        have e3 : chg s bs k0 (i + 1) = chg s bs k0 i := by rw [chg, if_neg hlt]
        dsimp only
        rw [e2, e3]
        exact (by refine ⟨rfl, rfl, by simp, ?_, ?_, .inr ⟨?_, ?_⟩⟩ <;> (repeat' apply And.intro) <;> first | rfl | trivial | (intro _; first | rfl | apply cells_refs))
    · have hi4 : i = 4 := by omega
      subst hi4
      have hsum := upd_sum s bs k0 hk0
      generalize chg s bs k0 4 = c at hsum
      generalize upd s bs k0 4 = u at hsum hul
      simp (config := { maxSteps := 2000000 }) (disch := first | omega | assumption | (simp only [List.length_cons, List.length_nil, Nat.zero_add, Nat.reduceAdd]; done) | (simp only [IntKind.wrap_i64]; omega) | (simp only [List.length_replicate, List.length_set, List.length_append, List.length_cons, List.length_nil, List.length_take, List.length_drop, List.length_map] <;> omega) | fail) only [vop_move, vcallee_move, vop_convert, vcallee_convert, vcallee_value, vcal_fn, conv_own, strip_pv, strip_own, strip_fn, optV_none, ev_tmp, ev_func, put_some, at_mk, fits_some, ↓look_cons, ↓vlook_t, ↓vlook_f, guard_none, ↓code_region, ↓code_seq, ↓code_exit, ↓onNormal_normal, ↓onNormal_exit, ↓onBlock_exit, blk_zero, blk_succ, evG_eq, ↓vrun_cons, ↓run1_some, ↓run2_none, ↓run2_some, ↓run3_some, ↓vcg_none, List.map_nil, List.map_cons, List.map_nil, List.nil_append, List.append_nil, ↓reduceIte, Nat.reduceLT, Nat.reduceBEq, Int.reduceLT, Int.reduceBEq, true_and, Bool.true_and, Bool.cond_self, beq_self_eq_true, dec_t, dec_f, conv_bts btsF, vcso_cells (l := u) hul]
      refine vc_pure (sum_v u (by omega)) rfl ?_
      simp (config := { maxSteps := 2000000 }) (disch := first | omega | assumption | (simp only [List.length_cons, List.length_nil, Nat.zero_add, Nat.reduceAdd]; done) | (simp only [IntKind.wrap_i64]; omega) | (simp only [List.length_replicate, List.length_set, List.length_append, List.length_cons, List.length_nil, List.length_take, List.length_drop, List.length_map] <;> omega) | fail) only [vop_move, vcallee_move, vcallee_value, vcal_fn, strip_pv, strip_fn, optV_none, ev_tmp, ev_func, put_some, at_mk, fits_some, ↓look_cons, ↓vlook_t, ↓vlook_f, guard_none, evG_eq, ↓vrun_cons, ↓run1_some, ↓run2_none, ↓run2_some, ↓run3_some, ↓runK_eq, ↓vcg_none, List.map_nil, List.map_cons, List.map_nil, List.nil_append, List.append_nil, Nat.reduceLT, Nat.reduceBEq, Int.reduceLT, Int.reduceBEq, true_and, Bool.true_and, Bool.cond_self, beq_self_eq_true, dec_t]
      refine vc_pure (sum_v s (by omega)) rfl ?_
      have hq : (sumX u == sumX s) = !c := by rw [← hsum]; rfl
      simp (config := { maxSteps := 2000000 }) (disch := first | omega | assumption | (simp only [List.length_cons, List.length_nil, Nat.zero_add, Nat.reduceAdd]; done) | (simp only [IntKind.wrap_i64]; omega) | (simp only [List.length_replicate, List.length_set, List.length_append, List.length_cons, List.length_nil, List.length_take, List.length_drop, List.length_map] <;> omega) | fail) only [vop_move, vcallee_move, vop_assign, vcallee_assign, vop_binOp, vcallee_binOp, vop_unOp, vcallee_unOp, bin2_tmp, strip_pv, optV_none, ev_tmp, put_some, at_mk, fits_some, ↓look_cons, ↓vlook_t, ↓vlook_f, guard_none, ↓vrun_nil, ↓code_ret, ↓onNormal_normal, frz_pv, frzHeap_zero, res_one, vres_tmp, bin_int, int_eql, un_not, evG_eq, ↓vrun_cons, ↓run1_some, ↓run2_none, ↓run3_some, ↓runK_eq, ↓vpost_ret, vfin_some, vfin2_some, at_hp, bin_bool, vbb_eql, Option.map_some, Nat.reduceLT, Nat.reduceBEq, Int.reduceLT, Int.reduceBEq, and_self, Bool.and_self, Bool.cond_self, beq_self_eq_true, Try.vkind4, dec_t, Ret, DV.nums, hq]

theorem bytesT33 : vbytesT Try.prog 9 33 = some 5 := by kernel_rfl
set_option maxHeartbeats 4000000 in
theorem csum_mid (s : List UInt8) (hs : s.length ≤ 500) (a : Int) (ha : 0 ≤ a ∧ a ≤ 65535) (bs : List UInt8) (hbs : bs.length = 4) : VWp Try.prog (.seq (fstc (sndc (sndc (bodyc Try.f5)))) (sndc (sndc (sndc (bodyc Try.f5))))) CPost (cst0 s a bs) := by
  have hr := csum_rest s hs a ha bs hbs
  refine vseqB ?_
  generalize sndc (sndc (sndc (bodyc Try.f5))) = rest at hr ⊢
  refine vbytes_region rfl rfl rfl rfl rfl rfl rfl rfl rfl rfl (by rfl) (by rfl) bytesT33 (by unfold maxLen; omega) rfl rfl (by rfl) rfl ?_
  refine ⟨⟨68, 0, [(7, .own 1 1 0 s.length), (5, .ptr 0 0), (1, .int .u16 a), (0, .pv (.str s))], [⟨32, true, cells encU bs⟩, ⟨5, true, cells encU s⟩]⟩, .inl ?_, hr⟩
  rw [cellsU_bytes]
  exact (by refine ⟨rfl, rfl, by simp, ?_, ?_, .inl rfl⟩ <;> (repeat' apply And.intro) <;> first | rfl | trivial)
set_option maxHeartbeats 4000000 in
theorem csum_v (s : List UInt8) (a : Int) (ha : 0 ≤ a ∧ a ≤ 65535) (bs : List UInt8) (hbs : bs.length = 4) : VCalls Try.prog 5 [.pv (.str s), .int .u16 a, .agg (cells encU bs)] [] (Ret (.bool true)) := by
  by_cases h1 : 500 < (s.length : Int)
  · refine vcalls_drop (fn := Try.f5) Try.func5 rfl (by kernel_rfl) (by simp [Try.f5]) ?_
    have hone : allOne (cells encU bs) = true := cells_one encU bs
    simp (config := { maxSteps := 2000000 }) (disch := first | omega | assumption | (simp only [List.length_cons, List.length_nil, Nat.zero_add, Nat.reduceAdd]; done) | (simp only [IntKind.wrap_i64]; omega) | (simp only [List.length_replicate, List.length_set, List.length_append, List.length_cons, List.length_nil, List.length_take, List.length_drop, List.length_map] <;> omega) | fail) only [vop_assign, vcallee_assign, vop_box, vcallee_box, vcallee_value, vcal_fn, strip_pv, strip_agg, strip_fn, optV_none, ev_tmp, ev_const, ev_func, ofConst_bool, put_some, at_mk, fits_some, ↓look_cons, ↓vlook_t, ↓vlook_f, guard_none, ↓vrun_nil, ↓code_region, ↓code_seq, ↓onNormal_normal, box_eq, enum_nil, enum_cons, evG_eq, ↓vrun_cons, ↓run1_some, ↓run2_none, ↓run2_some, ↓run3_some, ↓vcg_none, List.map_nil, dcells, List.toList_toArray, List.length_nil, List.map_nil, List.nil_append, List.append_nil, ↓reduceIte, Nat.reduceAdd, Nat.reduceLT, Nat.reduceBEq, Int.reduceLT, Int.reduceAdd, Int.reduceBEq, Nat.zero_add, true_and, Bool.true_and, cond_true, Bool.cond_self, beq_self_eq_true, dec_t, Try.f5, hone]
    refine vc_pure awake_v rfl ?_
    simp (config := { maxSteps := 2000000 }) (disch := first | omega | assumption | (simp only [List.length_cons, List.length_nil, Nat.zero_add, Nat.reduceAdd]; done) | (simp only [IntKind.wrap_i64]; omega) | (simp only [List.length_replicate, List.length_set, List.length_append, List.length_cons, List.length_nil, List.length_take, List.length_drop, List.length_map] <;> omega) | fail) only [vop_move, vcallee_move, vop_assign, vcallee_assign, vop_pick, vcallee_pick, vop_binOp, vcallee_binOp, vop_unOp, vcallee_unOp, vop_builtin, vcallee_builtin, bin2_int, vpick_bool, strip_pv, strip_opt, vstr_true, optV_none, optV_some, pickV_bool, ev_tmp, ev_const, ofConst_int, ofConst_bool, put_some, at_mk, fits_some, ↓look_cons, ↓vlook_t, ↓vlook_f, guard_none, guard_some, vgof_bool, ↓vrun_nil, ↓code_region, ↓code_seq, ↓code_ret, ↓onNormal_normal, ↓onNormal_ret, frz_pv, frzHeap_zero, res_one, vres_tmp, bin_int, int_gtr, un_not, len_str, vls_str, bi_len, evG_eq, ↓vrun_cons, ↓run1_some, ↓run2_none, ↓run3_some, ↓runK_eq, ↓code_cond, ↓vtest_bool, ↓vbr_true, ↓vpost_ret, vfin_some, vfin2_some, at_hp, List.map_nil, List.getElem?_cons_zero, List.getElem?_cons_succ, List.map_cons, List.map_nil, Option.map_some, Option.bind_some, Nat.reduceLT, Nat.reduceBEq, Int.reduceLT, Int.reduceBEq, and_self, or_true, Bool.not_true, Bool.not_false, Bool.or_true, Bool.and_self, Bool.cond_self, beq_self_eq_true, Try.vkind9, dec_t, Ret, DV.nums, h1]
  · refine vcalls_dropW (fn := Try.f5) Try.func5 rfl (by kernel_rfl) (by simp [Try.f5]) ?_
    have hr := csum_mid s (by omega) a ha bs hbs
    refine vseqW (a := fstc (bodyc Try.f5)) (b := .seq (fstc (sndc (bodyc Try.f5))) (.seq (fstc (sndc (sndc (bodyc Try.f5)))) (sndc (sndc (sndc (bodyc Try.f5)))))) ?_
    generalize (Code.seq (fstc (sndc (sndc (bodyc Try.f5)))) (sndc (sndc (sndc (bodyc Try.f5))))) = rest at hr ⊢
    have hone : allOne (cells encU bs) = true := cells_one encU bs
    have h2 : VWp Try.prog (.seq (fstc (sndc (bodyc Try.f5))) rest) CPost (cst0 s a bs) := by
      refine vseqW ?_
      simp (config := { maxSteps := 2000000 }) (disch := first | omega | assumption | (simp only [List.length_cons, List.length_nil, Nat.zero_add, Nat.reduceAdd]; done) | (simp only [IntKind.wrap_i64]; omega) | (simp only [List.length_replicate, List.length_set, List.length_append, List.length_cons, List.length_nil, List.length_take, List.length_drop, List.length_map] <;> omega) | fail) only [vcallee_value, vcal_fn, strip_fn, ev_func, fits_some, guard_none, ↓code_region, ↓code_seq, evG_eq, ↓vrun_cons, ↓run1_some, ↓run2_some, ↓vcg_none, List.map_nil, List.map_nil, List.append_nil, Nat.reduceLT, Int.reduceLT, true_and, Bool.true_and, dec_t, fstc_seq, sndc_seq, bodyc, Try.f5, cst0]
      refine vc_pure awake_v rfl ?_
      simp (config := { maxSteps := 2000000 }) (disch := first | omega | assumption | (simp only [List.length_cons, List.length_nil, Nat.zero_add, Nat.reduceAdd]; done) | (simp only [IntKind.wrap_i64]; omega) | (simp only [List.length_replicate, List.length_set, List.length_append, List.length_cons, List.length_nil, List.length_take, List.length_drop, List.length_map] <;> omega) | fail) only [vop_move, vcallee_move, vop_pick, vcallee_pick, vop_binOp, vcallee_binOp, vop_unOp, vcallee_unOp, vop_builtin, vcallee_builtin, bin2_int, vpick_bool, strip_pv, strip_opt, vstr_true, optV_none, optV_some, pickV_bool, ev_tmp, ev_const, ofConst_int, ofConst_bool, put_some, at_mk, fits_some, ↓look_cons, ↓vlook_t, ↓vlook_f, guard_none, guard_some, vgof_bool, ↓vrun_nil, ↓code_skip, ↓onNormal_normal, bin_int, int_gtr, un_not, len_str, vls_str, bi_len, evG_eq, ↓vrun_cons, ↓run1_some, ↓run2_none, ↓run3_some, ↓runK_eq, ↓code_cond, ↓vtest_bool, ↓vbr_false, List.map_nil, List.getElem?_cons_zero, List.getElem?_cons_succ, List.map_cons, List.map_nil, Option.map_some, Option.bind_some, Nat.reduceLT, Nat.reduceBEq, Int.reduceLT, Int.reduceBEq, decide_false, true_and, or_true, Bool.not_true, Bool.not_false, Bool.or_true, Bool.true_and, cond_false, Bool.cond_self, beq_self_eq_true, Try.vkind9, dec_t, h1]
      exact ⟨⟨68, 0, [(6, .bool false), (5, .ptr 0 0), (1, .int .u16 a), (0, .pv (.str s))], [⟨32, true, cells encU bs⟩]⟩, .inl (by refine ⟨rfl, rfl, by simp, ?_, ?_, .inl rfl⟩ <;> (repeat' apply And.intro) <;> first | rfl | trivial), hr⟩
    generalize (Code.seq (fstc (sndc (bodyc Try.f5))) rest) = rest2 at h2 ⊢
    simp (config := { maxSteps := 2000000 }) (disch := first | omega | assumption | (simp only [List.length_cons, List.length_nil, Nat.zero_add, Nat.reduceAdd]; done) | (simp only [IntKind.wrap_i64]; omega) | (simp only [List.length_replicate, List.length_set, List.length_append, List.length_cons, List.length_nil, List.length_take, List.length_drop, List.length_map] <;> omega) | fail) only [vop_assign, vcallee_assign, vop_box, vcallee_box, strip_pv, strip_agg, optV_none, ev_tmp, ev_const, ofConst_bool, put_some, at_mk, fits_some, ↓look_cons, ↓vlook_t, ↓vlook_f, guard_none, ↓vrun_nil, ↓code_region, ↓onNormal_normal, box_eq, enum_nil, enum_cons, evG_eq, ↓vrun_cons, ↓run1_some, ↓run2_none, ↓run3_some, dcells, List.toList_toArray, List.length_nil, List.nil_append, ↓reduceIte, Nat.reduceAdd, Nat.reduceLT, Nat.reduceBEq, Int.reduceLT, Int.reduceAdd, Int.reduceBEq, Nat.zero_add, true_and, Bool.true_and, cond_true, Bool.cond_self, beq_self_eq_true, dec_t, fstc_seq, bodyc, Try.f5, hone]
    exact ⟨⟨68, 0, [(6, .bool false), (5, .ptr 0 0), (1, .int .u16 a), (0, .pv (.str s))], [⟨32, true, cells encU bs⟩]⟩, .inl (by refine ⟨rfl, rfl, by simp, ?_, ?_, .inl rfl⟩ <;> (repeat' apply And.intro) <;> first | rfl | trivial), h2⟩
end Go.Proofs.Ytmdjgpnonhbfdaa

namespace Go.Proofs.Ytmdjgpnonhbfdaa
open Go.V Go
theorem arg_by {r : Reach} {b0 : Nat} {W : World} {v : Value} (hval : Value.okWide Try.prog W r b0 32 v) : ∃ bs : {l : List UInt8 // l.length = 4}, RelD W β0 [] (.agg (cells encU bs.1)) v := by
  obtain ⟨l, hl, hr, hw⟩ := arg_nums (ts := [5, 5, 5, 5]) (t := 32) (k := .u8) (.inr ⟨_, _, Try.underlying32⟩) (by kernel_rfl) (by kernel_rfl) (fun u hu => by
    simp only [List.mem_cons, List.not_mem_nil, or_false] at hu
    rcases hu with rfl | rfl | rfl | rfl <;> exact Try.underlying5) hval
  refine ⟨⟨l.map fun n => UInt8.ofNat n.toNat, by rw [List.length_map, hl]; rfl⟩, ?_⟩
  have e : (l.map fun n => DV.int .u8 n) = cells encU (l.map fun n => UInt8.ofNat n.toNat) := by
    rw [cellsU, List.map_map]
    refine List.map_congr_left fun n hn => ?_
    have := wf_u8 (hw n hn)
    have e2 : ((UInt8.ofNat n.toNat).toNat : Int) = n := by simp only [UInt8.toNat_ofNat']; omega
    simp only [Function.comp]
    rw [e2]
  rw [← e]
  exact hr
end Go.Proofs.Ytmdjgpnonhbfdaa
