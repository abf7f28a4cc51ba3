/-
  Closed facts about the types of this seat, written by a program (gentypes.py).
-/
import Derived.Test.YtjjjlkjhojdnnaaProg
import Derived.Test.YtjjjlkjhojdnnaaV2
import Derived.KernelRfl
import Derived.Test.YtjjjlkjhojdnnaaV3
namespace Go.Proofs
open Go.V

theorem Try.vt3 : vt Try.prog 3 = some none := by kernel_rfl
theorem Try.vkind3 : vkind Try.prog 3 = .int .i64 := by kernel_rfl
theorem Try.vzero3 : vzero Try.prog 3 = some [.pv (.lit (.int .i64 0))] := by kernel_rfl
theorem Try.bytes3 : bytesT Try.prog 3 = some 8 := by kernel_rfl
theorem Try.vt4 : vt Try.prog 4 = some none := by kernel_rfl
theorem Try.vkind4 : vkind Try.prog 4 = .bool := by kernel_rfl
theorem Try.vt5 : vt Try.prog 5 = some none := by kernel_rfl
theorem Try.vkind5 : vkind Try.prog 5 = .int .u8 := by kernel_rfl
theorem Try.vt22 : vt Try.prog 22 = some none := by kernel_rfl
theorem Try.velem22 : velem Try.prog 22 = some (none, 5, 1) := by kernel_rfl
theorem Try.vkind22 : vkind Try.prog 22 = .sl 5 := by kernel_rfl
theorem Try.vt26 : vt Try.prog 26 = some none := by kernel_rfl
theorem Try.velem26 : velem Try.prog 26 = some (none, 73, 2) := by kernel_rfl
theorem Try.notInt26 : notInt Try.prog 26 = true := by kernel_rfl
theorem Try.vkind26 : vkind Try.prog 26 = .sl 73 := by kernel_rfl
theorem Try.vt27 : vt Try.prog 27 = some none := by kernel_rfl
theorem Try.velem27 : velem Try.prog 27 = some (none, 3, 1) := by kernel_rfl
theorem Try.notInt27 : notInt Try.prog 27 = true := by kernel_rfl
theorem Try.vkind27 : vkind Try.prog 27 = .sl 3 := by kernel_rfl
theorem Try.vt29 : vt Try.prog 29 = some (some 4) := by kernel_rfl
theorem Try.vfield29x0 : vfield Try.prog 29 0 = some (3, 0, 1) := by kernel_rfl
theorem Try.vfield29x1 : vfield Try.prog 29 1 = some (3, 1, 1) := by kernel_rfl
theorem Try.vfield29x2 : vfield Try.prog 29 2 = some (26, 2, 1) := by kernel_rfl
theorem Try.vfield29x3 : vfield Try.prog 29 3 = some (27, 3, 1) := by kernel_rfl
theorem Try.vplaces29 : vplaces Try.prog 29 = some fun j => ([(0, 1), (1, 1), (2, 1), (3, 1)] : List (Nat × Nat))[j]? := by kernel_rfl
theorem Try.vzero29 : vzero Try.prog 29 = some [.pv (.lit (.int .i64 0)), .pv (.lit (.int .i64 0)), .pv (.slc []), .pv (.slc [])] := by kernel_rfl
theorem Try.velem35 : velem Try.prog 35 = some (none, 29, 4) := by kernel_rfl
theorem Try.vkind35 : vkind Try.prog 35 = .sl 29 := by kernel_rfl
theorem Try.vfield71x0 : vfield Try.prog 71 0 = some (22, 0, 1) := by kernel_rfl
theorem Try.vfield71x1 : vfield Try.prog 71 1 = some (3, 1, 1) := by kernel_rfl
theorem Try.vplaces71 : vplaces Try.prog 71 = some fun j => ([(0, 1), (1, 1)] : List (Nat × Nat))[j]? := by kernel_rfl
theorem Try.vzero71 : vzero Try.prog 71 = some [.pv (.slc []), .pv (.lit (.int .i64 0))] := by kernel_rfl
theorem Try.vt73 : vt Try.prog 73 = some (some 2) := by kernel_rfl
theorem Try.vfield73x0 : vfield Try.prog 73 0 = some (3, 0, 1) := by kernel_rfl
theorem Try.vfield73x1 : vfield Try.prog 73 1 = some (3, 1, 1) := by kernel_rfl
theorem Try.vplaces73 : vplaces Try.prog 73 = some fun j => ([(0, 1), (1, 1)] : List (Nat × Nat))[j]? := by kernel_rfl
theorem Try.vzero73 : vzero Try.prog 73 = some [.pv (.lit (.int .i64 0)), .pv (.lit (.int .i64 0))] := by kernel_rfl
theorem Try.bytes73 : bytesT Try.prog 73 = some 16 := by kernel_rfl
theorem Try.leaves73 : leaves Try.prog 8 73 = some [(0, 1), (1, 1)] := by kernel_rfl
theorem Try.eqg73 : Try.prog.eqGuardType Try.prog.depth 73 = false := by kernel_rfl
theorem Try.velem75 : velem Try.prog 75 = some (some 64, 4, 1) := by kernel_rfl
theorem Try.vzero75 : vzero Try.prog 75 = some [.pv (.lit (.bool false)), .pv (.lit (.bool false)), .pv (.lit (.bool false)), .pv (.lit (.bool false)), .pv (.lit (.bool false)), .pv (.lit (.bool false)), .pv (.lit (.bool false)), .pv (.lit (.bool false)), .pv (.lit (.bool false)), .pv (.lit (.bool false)), .pv (.lit (.bool false)), .pv (.lit (.bool false)), .pv (.lit (.bool false)), .pv (.lit (.bool false)), .pv (.lit (.bool false)), .pv (.lit (.bool false)), .pv (.lit (.bool false)), .pv (.lit (.bool false)), .pv (.lit (.bool false)), .pv (.lit (.bool false)), .pv (.lit (.bool false)), .pv (.lit (.bool false)), .pv (.lit (.bool false)), .pv (.lit (.bool false)), .pv (.lit (.bool false)), .pv (.lit (.bool false)), .pv (.lit (.bool false)), .pv (.lit (.bool false)), .pv (.lit (.bool false)), .pv (.lit (.bool false)), .pv (.lit (.bool false)), .pv (.lit (.bool false)), .pv (.lit (.bool false)), .pv (.lit (.bool false)), .pv (.lit (.bool false)), .pv (.lit (.bool false)), .pv (.lit (.bool false)), .pv (.lit (.bool false)), .pv (.lit (.bool false)), .pv (.lit (.bool false)), .pv (.lit (.bool false)), .pv (.lit (.bool false)), .pv (.lit (.bool false)), .pv (.lit (.bool false)), .pv (.lit (.bool false)), .pv (.lit (.bool false)), .pv (.lit (.bool false)), .pv (.lit (.bool false)), .pv (.lit (.bool false)), .pv (.lit (.bool false)), .pv (.lit (.bool false)), .pv (.lit (.bool false)), .pv (.lit (.bool false)), .pv (.lit (.bool false)), .pv (.lit (.bool false)), .pv (.lit (.bool false)), .pv (.lit (.bool false)), .pv (.lit (.bool false)), .pv (.lit (.bool false)), .pv (.lit (.bool false)), .pv (.lit (.bool false)), .pv (.lit (.bool false)), .pv (.lit (.bool false)), .pv (.lit (.bool false))] := by kernel_rfl
theorem Try.vkind99 : vkind Try.prog 99 = .int .u64 := by kernel_rfl
end Go.Proofs

namespace Go.Proofs.Ytjjjlkjhojdnnaa
open Go.V Go
set_option maxRecDepth 100000
set_option linter.unusedSimpArgs false

def cb (c : C) : Blk := ⟨71, true, cc c⟩
/-- What a contract of a method of Codes says. -/
abbrev CX (R : DV → Prop) : DV → Heap → Prop := fun r h' => ∃ B', h' = [B'] ∧ B'.live = true ∧ DV.nums.go (fun _ => false) B'.cells = true ∧ r.nums (fun _ => false) = true ∧ (R r ∧ ∃ c', B' = cb c')

theorem vc_cx {g : FuncId} {args : List DV} {hp : Heap} {k : Nat} {c : C} {R : DV → Prop} {K : DV → Heap → Prop} (h : VCalls Try.prog g (args.map (DV.ren fun _ => 0)) [cb c] (CX R)) (hk : hp[k]? = some (cb c))
    (ha : DV.nums.go (fun i => i == k) args = true) (hK : ∀ r c', R r → K r (hp.set k (cb c'))) : VCalls Try.prog g args hp K :=
  (VCalls.ptr1 (R := fun r B' => R r ∧ ∃ c', B' = cb c') hk rfl (cc_nums c) h ha).mono fun r h' ⟨B', e1, _, _, e2, e3⟩ => by subst e1; obtain ⟨c', rfl⟩ := e3; exact hK r c' e2

/-- A choice below n. -/
abbrev Nx (n : Nat) : DV → Prop := fun r => ∃ x : Nat, r = .int .i64 x ∧ x < n

theorem next0_v (c : C) (n : Nat) (h1 : 1 ≤ n) (hn : n ≤ 256) : VCalls Try.prog 25 [.ptr 0 0, .int .i64 n] [cb c] (CX (Nx n)) := by
  refine vcalls_drop (fn := Try.f25) Try.func25 rfl (by kernel_rfl) (by simp [Try.f25]) ?_
  have ha := c.ha
  have hl := c.hl
  simp (config := { maxSteps := 2000000 }) (implicitDefEqProofs := false) (disch := first | omega | assumption | (simp only []; done) | fail) only [vop_assign, vcallee_assign, strip_pv, optV_none, ev_const, ofConst_int, put_some, at_mk, fits_some, guard_none, ↓vrun_nil, ↓code_region, ↓code_draw, ↓code_seq, ↓onNormal_normal, enum_nil, enum_cons, evG_eq, ↓vrun_cons, ↓run1_some, ↓runG_true, ↓run2_none, ↓run3_some, List.toList_toArray, List.length_cons, List.length_nil, Nat.reduceAdd, Nat.reduceLT, Int.reduceLT, Int.reduceAdd, Nat.zero_add, true_and, Bool.true_and, dec_t, Try.f25, cb, cc]
  refine vdraw (by kernel_rfl) (by kernel_rfl) ?_
  by_cases a : c.at_ < c.l.length
  · simp (config := { maxSteps := 2000000 }) (implicitDefEqProofs := false) (disch := first | omega | assumption | (simp only []; done) | fail) only [vop_move, vcallee_move, okKind_move, foot_move, vop_pick, vcallee_pick, okKind_pick, foot_pick, vop_load, vcallee_load, okKind_load, vop_nilCheck, vcallee_nilCheck, okKind_nilCheck, foot_nilCheck, vop_binOp, vcallee_binOp, okKind_binOp, foot_binOp, vop_fieldAddr, vcallee_fieldAddr, okKind_fieldAddr, foot_fieldAddr, foot_load, foot_call, okKind_len, vop_builtin, vcallee_builtin, ptrNo_ptr, bin2_tmp, bin2_int, vnil_ptr, vpick_bool, strip_pv, strip_ptr, strip_opt, vstr_true, optV_none, optV_some, pickV_bool, ev_tmp, ev_const, ofConst_int, ofConst_bool, put_some, at_mk, fits_some, ↓look_cons, ↓vlook_t, ↓vlook_f, guard_none, guard_some, vgof_bool, ↓vdr_nil, ↓code_skip, ↓code_draw, ↓code_seq, ↓onNormal_normal, load_ptr, vld_one, blk_zero, faddr_ptr, vfap_some, bin_int, int_lss, int_geq, len_sl, vlk_sl, bi_len, okc_nil, okc_none, okc_other, okc_one, evG_eq, ↓vdr_cons, ↓dr1_some, ↓drG_true, ↓dr2_none, ↓dr3_some, ↓code_cond, ↓vtest_bool, ↓vbr_false, at_hp, List.map_nil, List.getElem?_cons_zero, List.getElem?_cons_succ, List.map_cons, List.map_nil, List.cons_append, List.nil_append, List.any_nil, List.any_cons, Option.map_some, Option.bind_some, ↓reduceIte, reduceCtorEq, Nat.reduceAdd, Nat.reduceLT, Nat.reduceBEq, Int.reduceLT, Int.reduceAdd, Int.reduceBEq, Nat.zero_add, Nat.add_zero, true_and, and_true, and_self, and_false, or_true, or_false, or_self, Bool.not_true, Bool.not_false, Bool.or_true, Bool.or_false, Bool.and_true, Bool.true_and, Bool.and_false, Bool.or_self, Bool.and_self, cond_false, beq_self_eq_true, fz_len, Try.vt3, Try.vt22, Try.vkind22, Try.vfield71x0, Try.vfield71x1, dec_t, dec_f]
    refine vdraw (by kernel_rfl) (by kernel_rfl) ?_
    have hg := fzU_get c.l c.at_ a
    have hh : (c.l.getD c.at_ 0).toNat < 256 := UInt8.toNat_lt _
    simp (config := { maxSteps := 2000000 }) (implicitDefEqProofs := false) (disch := first | omega | assumption | (simp only [List.length_cons, List.length_nil, Nat.zero_add]; done) | fail) only [vop_move, vcallee_move, okKind_move, foot_move, vop_assign, vcallee_assign, okKind_assign, foot_assign, vop_load, vcallee_load, okKind_load, vop_store, vcallee_store, vop_nilCheck, vcallee_nilCheck, okKind_nilCheck, foot_nilCheck, vop_binOp, vcallee_binOp, vop_convert, vcallee_convert, okKind_convert, vop_fieldAddr, vcallee_fieldAddr, okKind_fieldAddr, foot_fieldAddr, vop_indexAddr, vcallee_indexAddr, okKind_indexAddr, foot_indexAddr, foot_load, foot_convert, ptrNo_ptr, ptrNo_ip, conv_pv, bin2_tmp, bin2_int, ownNo_pv, vnil_ptr, strip_pv, strip_ptr, strip_ip, optV_none, ev_tmp, ev_const, ofConst_int, put_some, put_none, at_mk, fits_some, fits_none, ↓look_cons, ↓vlook_t, ↓vlook_f, guard_none, ↓vrun_nil, ↓vdr_nil, ↓code_skip, ↓code_region, ↓code_seq, ↓code_ret, ↓onNormal_normal, frz_pv, frz1_pv, allSome_nil, allSome_cons, res_one, vres_tmp, load_ptr, load_ip, vld_one, vldp_one, store_ptr, vst_one, blk_zero, set_zero, one_pv, faddr_ptr, vfap_some, iaddr_sl, vias_some, bin_int, int_add, int_gtr, int_rem, okc_nil, okc_none, okc_other, okc_one, conv_int, vci_int, evG_eq, ↓vrun_cons, ↓run1_some, ↓runG_true, ↓run2_none, ↓run3_some, ↓vdr_cons, ↓dr1_some, ↓drG_true, ↓dr2_none, ↓dr3_some, ↓code_cond, ↓vtest_bool, ↓vbr_false, ↓vpost_ret, vfin_some, vfin2_some, at_hp, frzHeap_one, frzH1_some, List.map_nil, List.getElem?_cons_zero, List.getElem?_cons_succ, List.length_cons, List.length_nil, List.map_cons, List.map_nil, List.cons_append, List.nil_append, List.set_cons_zero, List.set_cons_succ, List.any_nil, List.any_cons, Option.map_some, ↓reduceIte, reduceCtorEq, Nat.reduceAdd, Nat.reduceLT, Nat.reduceBEq, Int.reduceLT, Int.reduceAdd, Int.reduceBEq, Int.toNat_natCast, Nat.zero_add, Nat.add_zero, true_and, and_true, and_self, and_false, or_false, or_self, Bool.not_false, Bool.or_false, Bool.and_true, Bool.true_and, Bool.and_false, Bool.or_self, Bool.and_self, beq_self_eq_true, Try.vt3, Try.vkind3, Try.vt5, Try.vkind5, Try.vt22, Try.velem22, Try.vfield71x0, Try.vfield71x1, wrap_i64_in, dec_t, dec_f, hg]
    obtain ⟨y, hy, hlt⟩ := tmod_lt' (c.l.getD c.at_ 0).toNat n h1
    refine ⟨_, rfl, rfl, rfl, rfl, ⟨y, by rw [hy], hlt⟩, ⟨c.l, c.at_ + 1, a, hl⟩, rfl⟩
  · simp (config := { maxSteps := 2000000 }) (implicitDefEqProofs := false) (disch := first | omega | assumption | (simp only []; done) | fail) only [vop_move, vcallee_move, okKind_move, foot_move, vop_assign, vcallee_assign, vop_pick, vcallee_pick, okKind_pick, foot_pick, vop_load, vcallee_load, okKind_load, vop_nilCheck, vcallee_nilCheck, okKind_nilCheck, foot_nilCheck, vop_binOp, vcallee_binOp, okKind_binOp, foot_binOp, vop_fieldAddr, vcallee_fieldAddr, okKind_fieldAddr, foot_fieldAddr, foot_load, foot_call, okKind_len, vop_builtin, vcallee_builtin, ptrNo_ptr, bin2_tmp, vnil_ptr, vpick_bool, strip_pv, strip_ptr, strip_tup, optV_none, ev_tmp, ev_const, ofConst_int, ofConst_bool, put_some, at_mk, fits_some, ↓look_cons, ↓vlook_t, ↓vlook_f, guard_none, guard_some, vgof_bool, ↓vrun_nil, ↓vdr_nil, ↓code_region, ↓code_seq, ↓code_ret, ↓onNormal_normal, ↓onNormal_ret, frz_pv, frz1_pv, allSome_nil, allSome_cons, res_one, vres_tmp, load_ptr, vld_one, blk_zero, faddr_ptr, vfap_some, bin_int, int_geq, len_sl, vlk_sl, bi_len, okc_nil, okc_none, okc_other, okc_one, evG_eq, ↓vrun_cons, ↓run1_some, ↓runG_true, ↓run2_none, ↓run3_some, ↓vdr_cons, ↓dr1_some, ↓drG_true, ↓drG_false, ↓dr2_none, ↓dr3_some, ↓code_cond, ↓vtest_bool, ↓vbr_true, ↓vpost_ret, vfin_some, vfin2_some, at_hp, frzHeap_one, frzH1_some, pickV_t, List.map_nil, List.getElem?_cons_zero, List.getElem?_cons_succ, List.map_cons, List.map_nil, List.cons_append, List.nil_append, List.any_nil, List.any_cons, Option.map_some, Option.bind_some, ↓reduceIte, reduceCtorEq, Nat.reduceAdd, Nat.reduceLT, Nat.reduceBEq, Int.reduceLT, Int.reduceAdd, Int.reduceBEq, Nat.zero_add, Nat.add_zero, true_and, and_true, and_self, and_false, or_false, or_self, Bool.not_true, Bool.not_false, Bool.or_false, Bool.and_true, Bool.true_and, Bool.and_false, Bool.or_self, Bool.and_self, b_beq_f, beq_self_eq_true, fz_len, Try.vt3, Try.vt22, Try.vkind22, Try.vfield71x0, Try.vfield71x1, dec_t]
    exact ⟨_, rfl, rfl, rfl, rfl, ⟨0, rfl, h1⟩, c, rfl⟩

theorem next_v (c : C) (n : Nat) (h1 : 1 ≤ n) (hn : n ≤ 1000000) : VCalls Try.prog 25 [.ptr 0 0, .int .i64 n] [cb c] (CX (Nx n)) := by
  by_cases hs : n ≤ 256
  · exact next0_v c n h1 hs
  refine vcalls_drop (fn := Try.f25) Try.func25 rfl (by kernel_rfl) (by simp [Try.f25]) ?_
  have ha := c.ha
  have hl := c.hl
  simp (config := { maxSteps := 2000000 }) (implicitDefEqProofs := false) (disch := first | omega | assumption | (simp only []; done) | fail) only [vop_assign, vcallee_assign, strip_pv, optV_none, ev_const, ofConst_int, put_some, at_mk, fits_some, guard_none, ↓vrun_nil, ↓code_region, ↓code_draw, ↓code_seq, ↓onNormal_normal, enum_nil, enum_cons, evG_eq, ↓vrun_cons, ↓run1_some, ↓runG_true, ↓run2_none, ↓run3_some, List.toList_toArray, List.length_cons, List.length_nil, Nat.reduceAdd, Nat.reduceLT, Int.reduceLT, Int.reduceAdd, Nat.zero_add, true_and, Bool.true_and, dec_t, Try.f25, cb, cc]
  refine vdraw (by kernel_rfl) (by kernel_rfl) ?_
  by_cases a : c.at_ < c.l.length
  · simp (config := { maxSteps := 2000000 }) (implicitDefEqProofs := false) (disch := first | omega | assumption | (simp only []; done) | fail) only [vop_move, vcallee_move, okKind_move, foot_move, vop_pick, vcallee_pick, okKind_pick, foot_pick, vop_load, vcallee_load, okKind_load, vop_nilCheck, vcallee_nilCheck, okKind_nilCheck, foot_nilCheck, vop_binOp, vcallee_binOp, okKind_binOp, foot_binOp, vop_fieldAddr, vcallee_fieldAddr, okKind_fieldAddr, foot_fieldAddr, foot_load, foot_call, okKind_len, vop_builtin, vcallee_builtin, ptrNo_ptr, bin2_tmp, bin2_int, vnil_ptr, vpick_bool, strip_pv, strip_ptr, strip_opt, vstr_true, optV_none, optV_some, pickV_bool, ev_tmp, ev_const, ofConst_int, ofConst_bool, put_some, at_mk, fits_some, ↓look_cons, ↓vlook_t, ↓vlook_f, guard_none, guard_some, vgof_bool, ↓vdr_nil, ↓code_skip, ↓code_draw, ↓code_seq, ↓onNormal_normal, load_ptr, vld_one, blk_zero, faddr_ptr, vfap_some, bin_int, int_lss, int_geq, len_sl, vlk_sl, bi_len, okc_nil, okc_none, okc_other, okc_one, evG_eq, ↓vdr_cons, ↓dr1_some, ↓drG_true, ↓dr2_none, ↓dr3_some, ↓code_cond, ↓vtest_bool, ↓vbr_false, at_hp, List.map_nil, List.getElem?_cons_zero, List.getElem?_cons_succ, List.map_cons, List.map_nil, List.cons_append, List.nil_append, List.any_nil, List.any_cons, Option.map_some, Option.bind_some, ↓reduceIte, reduceCtorEq, Nat.reduceAdd, Nat.reduceLT, Nat.reduceBEq, Int.reduceLT, Int.reduceAdd, Int.reduceBEq, Nat.zero_add, Nat.add_zero, true_and, and_true, and_self, and_false, or_true, or_false, or_self, Bool.not_true, Bool.not_false, Bool.or_true, Bool.or_false, Bool.and_true, Bool.true_and, Bool.and_false, Bool.or_self, Bool.and_self, cond_false, beq_self_eq_true, fz_len, Try.vt3, Try.vt22, Try.vkind22, Try.vfield71x0, Try.vfield71x1, dec_t, dec_f]
    refine vdraw (by kernel_rfl) (by kernel_rfl) ?_
    have hg := fzU_get c.l c.at_ a
    have hh : (c.l.getD c.at_ 0).toNat < 256 := UInt8.toNat_lt _
    generalize hx : (c.l.getD c.at_ 0).toNat = x at hg hh
    simp (config := { maxSteps := 2000000 }) (implicitDefEqProofs := false) (disch := first | omega | assumption | (simp only [List.length_cons, List.length_nil, Nat.zero_add]; done) | fail) only [vop_move, vcallee_move, okKind_move, foot_move, vop_assign, vcallee_assign, okKind_assign, foot_assign, vop_load, vcallee_load, okKind_load, vop_store, vcallee_store, vop_nilCheck, vcallee_nilCheck, okKind_nilCheck, foot_nilCheck, vop_binOp, vcallee_binOp, vop_convert, vcallee_convert, okKind_convert, vop_fieldAddr, vcallee_fieldAddr, okKind_fieldAddr, foot_fieldAddr, vop_indexAddr, vcallee_indexAddr, okKind_indexAddr, foot_indexAddr, foot_load, foot_convert, vcallee_value, vcal_fn, ptrNo_ptr, ptrNo_ip, conv_pv, bin2_tmp, bin2_int, ownNo_pv, vnil_ptr, strip_pv, strip_ptr, strip_ip, strip_fn, optV_none, ev_tmp, ev_const, ev_func, ofConst_int, put_some, put_none, at_mk, fits_some, fits_none, ↓look_cons, ↓vlook_t, ↓vlook_f, guard_none, ↓vrun_nil, ↓vdr_nil, ↓code_region, ↓code_seq, ↓onNormal_normal, load_ptr, load_ip, vld_one, vldp_one, store_ptr, vst_one, blk_zero, set_zero, one_pv, faddr_ptr, vfap_some, iaddr_sl, vias_some, bin_int, int_add, int_mul, int_gtr, okc_nil, okc_none, okc_other, okc_one, conv_int, vci_int, evG_eq, ↓vrun_cons, ↓run1_some, ↓runG_true, ↓run2_none, ↓run2_some, ↓run3_some, ↓vdr_cons, ↓dr1_some, ↓drG_true, ↓dr2_none, ↓dr3_some, ↓code_cond, ↓vtest_bool, ↓vbr_true, at_hp, List.map_nil, List.getElem?_cons_zero, List.getElem?_cons_succ, List.length_cons, List.length_nil, List.map_cons, List.map_nil, List.cons_append, List.nil_append, List.append_nil, List.set_cons_zero, List.set_cons_succ, List.any_nil, List.any_cons, Option.map_some, ↓reduceIte, reduceCtorEq, Nat.reduceAdd, Nat.reduceLT, Nat.reduceBEq, Int.reduceLT, Int.reduceAdd, Int.reduceBEq, Int.toNat_natCast, Nat.zero_add, Nat.add_zero, true_and, and_true, and_self, and_false, or_false, or_self, Bool.not_false, Bool.or_false, Bool.and_true, Bool.true_and, Bool.and_false, Bool.or_self, Bool.and_self, beq_self_eq_true, Try.vt3, Try.vkind3, Try.vt5, Try.vkind5, Try.vt22, Try.velem22, Try.vfield71x0, Try.vfield71x1, wrap_i64_in, dec_t, hg]
    refine vc_cx (k := 0) (c := ⟨c.l, c.at_ + 1, a, hl⟩) (next0_v _ 256 (by omega) (by omega)) rfl rfl ?_
    rintro r c' ⟨z, rfl, hz⟩
    simp (config := { maxSteps := 2000000 }) (implicitDefEqProofs := false) (disch := first | omega | assumption | (simp only []; done) | fail) only [vop_move, vcallee_move, vop_assign, vcallee_assign, vop_binOp, vcallee_binOp, bin2_tmp, strip_pv, optV_none, ev_tmp, put_some, at_mk, fits_some, ↓look_cons, ↓vlook_t, ↓vlook_f, guard_none, ↓vrun_nil, ↓code_ret, ↓onNormal_normal, ↓onNormal_ret, frz_pv, frz1_pv, allSome_nil, allSome_cons, res_one, vres_tmp, bin_int, int_add, int_rem, evG_eq, ↓vrun_cons, ↓run1_some, ↓runG_true, ↓run2_none, ↓run3_some, ↓runK_eq, ↓vpost_ret, vfin_some, vfin2_some, at_hp, frzHeap_one, frzH1_some, List.map_nil, List.map_cons, List.map_nil, List.set_cons_zero, Option.map_some, Nat.reduceLT, Nat.reduceBEq, Int.reduceLT, Int.reduceBEq, true_and, Bool.true_and, beq_self_eq_true, wrap_i64_in, dec_t, cb, cc]
    obtain ⟨y, hy, hlt⟩ := tmod_lt' (256 * x + z) n h1
    have e : (256 * (x : Int) + (z : Int)) = ((256 * x + z : Nat) : Int) := by omega
    refine ⟨_, rfl, rfl, rfl, rfl, ⟨y, by rw [e, hy], hlt⟩, c', rfl⟩
  · simp (config := { maxSteps := 2000000 }) (implicitDefEqProofs := false) (disch := first | omega | assumption | (simp only []; done) | fail) only [vop_move, vcallee_move, okKind_move, foot_move, vop_assign, vcallee_assign, vop_pick, vcallee_pick, okKind_pick, foot_pick, vop_load, vcallee_load, okKind_load, vop_nilCheck, vcallee_nilCheck, okKind_nilCheck, foot_nilCheck, vop_binOp, vcallee_binOp, okKind_binOp, foot_binOp, vop_fieldAddr, vcallee_fieldAddr, okKind_fieldAddr, foot_fieldAddr, foot_load, foot_call, okKind_len, vop_builtin, vcallee_builtin, ptrNo_ptr, bin2_tmp, vnil_ptr, vpick_bool, strip_pv, strip_ptr, strip_tup, optV_none, ev_tmp, ev_const, ofConst_int, ofConst_bool, put_some, at_mk, fits_some, ↓look_cons, ↓vlook_t, ↓vlook_f, guard_none, guard_some, vgof_bool, ↓vrun_nil, ↓vdr_nil, ↓code_region, ↓code_seq, ↓code_ret, ↓onNormal_normal, ↓onNormal_ret, frz_pv, frz1_pv, allSome_nil, allSome_cons, res_one, vres_tmp, load_ptr, vld_one, blk_zero, faddr_ptr, vfap_some, bin_int, int_geq, len_sl, vlk_sl, bi_len, okc_nil, okc_none, okc_other, okc_one, evG_eq, ↓vrun_cons, ↓run1_some, ↓runG_true, ↓run2_none, ↓run3_some, ↓vdr_cons, ↓dr1_some, ↓drG_true, ↓drG_false, ↓dr2_none, ↓dr3_some, ↓code_cond, ↓vtest_bool, ↓vbr_true, ↓vpost_ret, vfin_some, vfin2_some, at_hp, frzHeap_one, frzH1_some, pickV_t, List.map_nil, List.getElem?_cons_zero, List.getElem?_cons_succ, List.map_cons, List.map_nil, List.cons_append, List.nil_append, List.any_nil, List.any_cons, Option.map_some, Option.bind_some, ↓reduceIte, reduceCtorEq, Nat.reduceAdd, Nat.reduceLT, Nat.reduceBEq, Int.reduceLT, Int.reduceAdd, Int.reduceBEq, Nat.zero_add, Nat.add_zero, true_and, and_true, and_self, and_false, or_false, or_self, Bool.not_true, Bool.not_false, Bool.or_false, Bool.and_true, Bool.true_and, Bool.and_false, Bool.or_self, Bool.and_self, b_beq_f, beq_self_eq_true, fz_len, Try.vt3, Try.vt22, Try.vkind22, Try.vfield71x0, Try.vfield71x1, dec_t]
    exact ⟨_, rfl, rfl, rfl, rfl, ⟨0, rfl, h1⟩, c, rfl⟩

theorem next_i (c : C) (m : Int) (h1 : 1 ≤ m) (hn : m ≤ 1000000) : VCalls Try.prog 25 [.ptr 0 0, .int .i64 m] [cb c] (CX (Nx m.toNat)) := by
  have h := next_v c m.toNat (by omega) (by omega)
  rwa [show ((m.toNat : Nat) : Int) = m by omega] at h

theorem draw_v (l : List UInt8) (most : Nat) (hm : 1 ≤ most) (h : most ≤ 1000000) (hl : l.length ≤ 9223372036854775807) : VCalls Try.prog 10 [.pv (.sl (fz encU l)), .int .i64 most] [] fun r h' => ∃ B, h' = [B] ∧ r = .ptr 0 0 ∧ B.live = true ∧ DV.nums.go (fun _ => false) B.cells = true ∧ ∃ c, B = cb c := by
  refine vcalls_keep (fn := Try.f10) Try.func10 rfl (by kernel_rfl) (by simp [Try.f10]) ?_
  simp (config := { maxSteps := 2000000 }) (implicitDefEqProofs := false) (disch := first | omega | assumption | (simp only []; done) | fail) only [vop_move, vcallee_move, vop_assign, vcallee_assign, vop_binOp, vcallee_binOp, vop_builtin, vcallee_builtin, bin2_tmp, strip_pv, optV_none, ev_tmp, ev_const, put_some, at_mk, fits_some, ↓look_cons, ↓vlook_t, ↓vlook_f, guard_none, ↓vrun_nil, ↓code_region, ↓code_seq, ↓onNormal_normal, bin_int, int_gtr, len_sl, vlk_sl, bi_len, enum_nil, enum_cons, evG_eq, ↓vrun_cons, ↓run1_some, ↓runG_true, ↓run2_none, ↓run3_some, ↓code_cond, ↓vtest_bool, at_hp, List.map_nil, List.toList_toArray, List.length_nil, List.map_cons, List.map_nil, Option.map_some, Nat.reduceAdd, Nat.reduceLT, Nat.reduceBEq, Int.reduceLT, Int.reduceAdd, Int.reduceBEq, Nat.zero_add, true_and, Bool.true_and, beq_self_eq_true, fz_len, Try.vkind22, dec_t, Try.f10]
  refine vbr_split (fun hc => ?_) (fun hc => ?_) <;> simp only [decide_eq_true_eq, decide_eq_false_iff_not, Bool.or_eq_true, Bool.and_eq_true, Bool.or_eq_false_iff, Bool.and_eq_false_imp, Bool.not_eq_true', Bool.not_eq_false', beq_iff_eq, beq_eq_false_iff_ne, bne_iff_ne, bne_eq_false_iff_eq, ne_eq] at hc
  · have hx : (fz encU l)[0]?.map List.length = some 1 := fz_has encU l (by omega)
    have ht : (fz encU l).take most = fz encU (l.take most) := fz_take encU l most
    have hh : most ≤ (fz encU l).length := by rw [fz_len]; omega
    have h0 : (0 : Nat) ≤ most := by omega
    simp (config := { maxSteps := 2000000 }) (implicitDefEqProofs := false) (disch := first | omega | assumption | (simp only []; done) | fail) only [vop_move, vcallee_move, vop_assign, vcallee_assign, vop_box, vcallee_box, vop_build, vcallee_build, vop_slice, vcallee_slice, strip_pv, strip_ptr, strip_agg, optV_none, ev_tmp, put_some, at_mk, fits_some, ↓look_cons, ↓vlook_t, ↓vlook_f, guard_none, ↓vrun_nil, ↓code_region, ↓code_seq, ↓code_ret, ↓onNormal_normal, res_one, vres_tmp, box_eq, allOne_nil, allOne_cons, one_pv, parts_nil, parts_cons, evG_eq, ↓vrun_cons, ↓run1_some, ↓runG_true, ↓run2_none, ↓run3_some, ↓keep_ret, vfinK_some, at_hp, slice_pv, slice_sl_hi, vslk_some, dcells, vbuild, vfill, V.splice, List.getElem?_cons_zero, List.length_cons, List.length_nil, List.cons_append, List.nil_append, List.take_zero, List.drop_succ_cons, List.drop_zero, Option.map_some, Option.map_none, ↓reduceIte, Nat.reduceAdd, Nat.reduceLT, Nat.reduceLeDiff, Nat.reduceBEq, Int.reduceLT, Int.reduceAdd, Int.reduceBEq, Int.toNat_natCast, Nat.zero_add, true_and, and_self, Bool.true_and, Bool.and_self, beq_self_eq_true, Try.velem22, Try.vplaces71, Try.vzero71, dec_t, ht]
    exact ⟨_, rfl, rfl, rfl, ⟨l.take most, 0, by omega, by rw [List.length_take]; omega⟩, rfl⟩
  · simp (config := { maxSteps := 2000000 }) (implicitDefEqProofs := false) (disch := first | omega | assumption | (simp only []; done) | fail) only [vop_move, vcallee_move, vop_assign, vcallee_assign, vop_box, vcallee_box, vop_build, vcallee_build, strip_pv, strip_ptr, strip_agg, optV_none, ev_tmp, put_some, at_mk, fits_some, ↓look_cons, ↓vlook_t, ↓vlook_f, guard_none, ↓vrun_nil, ↓code_skip, ↓code_region, ↓code_seq, ↓code_ret, ↓onNormal_normal, res_one, vres_tmp, box_eq, allOne_nil, allOne_cons, one_pv, parts_nil, parts_cons, evG_eq, ↓vrun_cons, ↓run1_some, ↓runG_true, ↓run2_none, ↓run3_some, ↓keep_ret, vfinK_some, at_hp, dcells, vbuild, vfill, V.splice, List.getElem?_cons_zero, List.length_cons, List.length_nil, List.cons_append, List.nil_append, List.take_zero, List.drop_succ_cons, List.drop_zero, Option.map_some, ↓reduceIte, Nat.reduceAdd, Nat.reduceLT, Nat.reduceLeDiff, Nat.reduceBEq, Int.reduceLT, Int.reduceAdd, Int.reduceBEq, Nat.zero_add, true_and, and_self, Bool.true_and, Bool.and_self, beq_self_eq_true, Try.vplaces71, Try.vzero71, dec_t, dec_f]
    exact ⟨_, rfl, rfl, rfl, ⟨l, 0, by omega, by omega⟩, rfl⟩

theorem vc_draw {l : List UInt8} {most : Nat} {hp : Heap} {K : DV → Heap → Prop} (hm : 1 ≤ most) (h : most ≤ 1000000) (hl : l.length ≤ 9223372036854775807) (hK : ∀ c, K (.ptr hp.length 0) (hp ++ [cb c])) : VCalls Try.prog 10 [.pv (.sl (fz encU l)), .int .i64 most] hp K :=
  (VCalls.new (draw_v l most hm h hl) rfl).mono fun r h' ⟨B, e1, e2, _, _, c, e3⟩ => by subst e1 e2 e3; exact hK c

end Go.Proofs.Ytjjjlkjhojdnnaa

namespace Go.Proofs.Ytjjjlkjhojdnnaa
open Go.V Go
set_option maxRecDepth 100000
set_option linter.unusedSimpArgs false

abbrev noK : Nat → Bool := fun _ => false
/-- How far a search has come. -/
structure Pass {α : Type} (l : List α) (p : α → Prop) where
  i : Nat
  hi : i ≤ l.length
  no : ∀ x ∈ l.take i, ¬ p x
def Pass.start {α : Type} (l : List α) (p : α → Prop) : Pass l p := ⟨0, Nat.zero_le _, by simp⟩
def Pass.next {α : Type} {l : List α} {p : α → Prop} (s : Pass l p) (h : s.i < l.length) (hp : ¬ p l[s.i]) : Pass l p :=
  ⟨s.i + 1, h, fun x hx => by
    rw [List.take_succ_eq_append_getElem h, List.mem_append] at hx
    rcases hx with hx | hx
    · exact s.no x hx
    · simp at hx; subst hx; exact hp⟩
theorem Pass.all {α : Type} {l : List α} {p : α → Prop} (s : Pass l p) (h : ¬ s.i < l.length) : ∀ x ∈ l, ¬ p x := by
  have := s.no
  rwa [List.take_of_length_le (by omega)] at this
def idxP {α : Type} (l : List α) (p : α → Bool) : Int := if l.any p = true then (l.findIdx p : Int) else -1
theorem idxP_at {α : Type} (l : List α) (p : α → Bool) (i : Nat) (h : i < l.length) (hx : p l[i] = true) (no : ∀ x ∈ l.take i, ¬ p x = true) : idxP l p = i := by
  rw [idxP, if_pos (List.any_eq_true.2 ⟨l[i], List.getElem_mem h, hx⟩)]
  congr 1
  rw [List.findIdx_eq h]
  refine ⟨hx, fun j hj => ?_⟩
  have := no l[j] (List.mem_take_iff_getElem.2 ⟨j, by omega, rfl⟩)
  simpa using this
theorem cells_all {α : Type} (e : Enc α) (l : List α) (n : Nat) (h : n = l.length * e.sz) : (cells e l).take n = cells e l := by rw [List.take_of_length_le]; rw [cells_len]; omega
theorem fz_at {α : Type} (e : Enc α) (l : List α) (i : Nat) (h : i < l.length) : (fz e l)[i]? = some (e.enc l[i]) := fz_get e l i h

structure Pl where
  pg : Int
  ad : Int
def encP : Enc Pl := ⟨2, fun p => [.lit (.int .i64 p.pg), .lit (.int .i64 p.ad)], by omega, fun _ => rfl⟩

theorem cloneI_v (l : List Int) (hl : l.length ≤ 1000000) : VCalls Try.prog 47 [.pv (.sl (fz encI l))] [] (NewSl noK [] 1 l.length 3 (cells encI l)) := by
  refine VCalls.newSl ?_
  by_cases hz : l = []
  · subst hz
    refine VCalls.open0 fun ad cap hs => ?_
    refine vcalls_keep (fn := Try.f47) Try.func47 rfl (by kernel_rfl) (by simp [Try.f47]) ?_
    simp (config := { maxSteps := 2000000 }) (implicitDefEqProofs := false) (disch := first | omega | assumption | (simp only []; done) | fail) only [vop_move, vcallee_move, vop_assign, vcallee_assign, vop_binOp, vcallee_binOp, bin2_nil, vnilT_sl, vnilc_eql, isNil_lit, strip_pv, optV_none, ev_tmp, ev_const, ofConst_slice, put_some, at_mk, fits_some, ↓look_cons, ↓vlook_t, ↓vlook_f, guard_none, ↓vrun_nil, ↓code_region, ↓code_seq, ↓onNormal_normal, enum_nil, enum_cons, evG_eq, ↓vrun_cons, ↓run1_some, ↓runG_true, ↓run2_none, ↓run3_some, ↓code_cond, ↓vtest_bool, at_hp, List.toList_toArray, List.length_nil, Option.map_some, Nat.reduceLT, Nat.reduceBEq, Int.reduceLT, Int.reduceBEq, Nat.zero_add, true_and, Bool.true_and, beq_self_eq_true, dec_t, Try.f47, Try.underlying27]
    refine vbr_split (fun h => ?_) (fun h => ?_)
    · simp (config := { maxSteps := 2000000 }) (implicitDefEqProofs := false) (disch := first | omega | assumption | (simp only []; done) | fail) only [vop_assign, vcallee_assign, strip_pv, optV_none, ev_const, ofConst_slice, put_some, at_mk, fits_some, ↓look_cons, ↓vlook_t, guard_none, ↓vrun_nil, ↓code_region, ↓code_seq, ↓code_ret, ↓onNormal_normal, ↓onNormal_ret, res_one, vres_tmp, evG_eq, ↓vrun_cons, ↓run1_some, ↓runG_true, ↓run2_none, ↓run3_some, ↓keep_ret, vfinK_some, at_hp, Nat.reduceLT, Int.reduceLT, true_and, Bool.true_and, beq_self_eq_true, dec_t]
      exact ⟨by simp, .inl ⟨rfl, rfl, rfl⟩⟩
    · simp (config := { maxSteps := 2000000 }) (implicitDefEqProofs := false) (disch := first | omega | assumption | (simp only []; done) | fail) only [vop_move, vcallee_move, vop_assign, vcallee_assign, vop_buildSlice, vcallee_buildSlice, vop_builtin, vcallee_builtin, strip_pv, strip_own, optV_none, ev_tmp, put_some, at_mk, fits_some, ↓look_cons, ↓vlook_t, ↓vlook_f, guard_none, ↓vrun_nil, ↓code_skip, ↓code_region, ↓code_seq, ↓code_ret, ↓onNormal_normal, res_one, vres_tmp, allOne_nil, allOne_cons, one_pv, bi_append, ap2_own, parts_nil, evG_eq, ↓vrun_cons, ↓run1_some, ↓runG_true, ↓run2_none, ↓run3_some, ↓keep_ret, vfinK_some, at_hp, List.map_nil, vfill, vbuildSlice, V.mk, vsrc, vbase, vappend, V.kill, List.getElem?_cons_zero, List.length_cons, List.length_nil, List.map_cons, List.map_nil, List.cons_append, List.nil_append, List.append_nil, List.take_nil, List.set_cons_zero, Option.map_some, ↓reduceIte, Nat.reduceLT, Nat.reduceLeDiff, Nat.reduceBEq, Int.reduceLT, Int.reduceBEq, Nat.zero_add, Nat.add_zero, Nat.zero_mul, Nat.mul_one, true_and, and_self, Bool.true_and, Bool.and_self, beq_self_eq_true, Nat.le_refl, Try.vzero3, Try.bytes3, Try.velem27, Try.notInt27, dec_t]
      exact ⟨by simp, .inr ⟨_, .inl rfl, by simp, rfl, rfl⟩⟩
  · have hp : 0 < l.length := List.length_pos_iff.2 hz
    refine vcalls_keep (fn := Try.f47) Try.func47 rfl (by kernel_rfl) (by simp [Try.f47]) ?_
    have h0 := isNil_fz encI l hp
    have hx : (fz encI l)[0]?.map List.length = some 1 := fz_has encI l hp
    have hb : l.length * 8 ≤ 140737488355328 := by omega
    have hfl : pvs (fz encI l) = cells encI l := fz_flat encI l
    simp (config := { maxSteps := 2000000 }) (implicitDefEqProofs := false) (disch := first | omega | assumption | (simp only []; done) | fail) only [vop_move, vcallee_move, vop_assign, vcallee_assign, vop_buildSlice, vcallee_buildSlice, vop_binOp, vcallee_binOp, vop_builtin, vcallee_builtin, bin2_nil, vnilT_sl, vnilc_eql, strip_pv, strip_own, optV_none, ev_tmp, ev_const, ofConst_slice, put_some, at_mk, fits_some, ↓look_cons, ↓vlook_t, ↓vlook_f, guard_none, ↓vrun_nil, ↓code_skip, ↓code_region, ↓code_seq, ↓code_ret, ↓onNormal_normal, res_one, vres_tmp, allOne_nil, allOne_cons, one_pv, bi_append, ap2_own, parts_nil, enum_nil, enum_cons, evG_eq, ↓vrun_cons, ↓run1_some, ↓runG_true, ↓run2_none, ↓run3_some, ↓code_cond, ↓vtest_bool, ↓vbr_false, ↓keep_ret, vfinK_some, at_hp, pvs, List.map_nil, vfill, vbuildSlice, V.mk, slOf, vsrc, vbase, vappend, V.kill, List.toList_toArray, List.getElem?_cons_zero, List.length_cons, List.length_nil, List.map_cons, List.map_nil, List.cons_append, List.nil_append, List.take_nil, List.set_cons_zero, Option.map_some, ↓reduceIte, Nat.reduceLT, Nat.reduceLeDiff, Nat.reduceBEq, Int.reduceLT, Int.reduceBEq, Nat.zero_add, Nat.mul_one, true_and, and_self, or_true, Bool.or_true, Bool.true_and, Bool.and_self, beq_self_eq_true, Nat.le_refl, fz_len, fz_flat, Try.vzero3, Try.bytes3, Try.velem27, Try.notInt27, dec_t, Try.f47, Try.underlying27, h0, hx, hb]
    exact ⟨by simp, .inr ⟨_, .inl rfl, by simp, rfl, cells_nums _ _ _⟩⟩

theorem cloneP_v (l : List Pl) (hl : l.length ≤ 1000000) : VCalls Try.prog 48 [.pv (.sl (fz encP l))] [] (NewSl noK [] 2 l.length 73 (cells encP l)) := by
  refine VCalls.newSl ?_
  by_cases hz : l = []
  · subst hz
    refine VCalls.open0 fun ad cap hs => ?_
    refine vcalls_keep (fn := Try.f48) Try.func48 rfl (by kernel_rfl) (by simp [Try.f48]) ?_
    simp (config := { maxSteps := 2000000 }) (implicitDefEqProofs := false) (disch := first | omega | assumption | (simp only []; done) | fail) only [vop_move, vcallee_move, vop_assign, vcallee_assign, vop_binOp, vcallee_binOp, bin2_nil, vnilT_sl, vnilc_eql, isNil_lit, strip_pv, optV_none, ev_tmp, ev_const, ofConst_slice, put_some, at_mk, fits_some, ↓look_cons, ↓vlook_t, ↓vlook_f, guard_none, ↓vrun_nil, ↓code_region, ↓code_seq, ↓onNormal_normal, enum_nil, enum_cons, evG_eq, ↓vrun_cons, ↓run1_some, ↓runG_true, ↓run2_none, ↓run3_some, ↓code_cond, ↓vtest_bool, at_hp, List.toList_toArray, List.length_nil, Option.map_some, Nat.reduceLT, Nat.reduceBEq, Int.reduceLT, Int.reduceBEq, Nat.zero_add, true_and, Bool.true_and, beq_self_eq_true, dec_t, Try.f48, Try.underlying26]
    refine vbr_split (fun h => ?_) (fun h => ?_)
    · simp (config := { maxSteps := 2000000 }) (implicitDefEqProofs := false) (disch := first | omega | assumption | (simp only []; done) | fail) only [vop_assign, vcallee_assign, strip_pv, optV_none, ev_const, ofConst_slice, put_some, at_mk, fits_some, ↓look_cons, ↓vlook_t, guard_none, ↓vrun_nil, ↓code_region, ↓code_seq, ↓code_ret, ↓onNormal_normal, ↓onNormal_ret, res_one, vres_tmp, evG_eq, ↓vrun_cons, ↓run1_some, ↓runG_true, ↓run2_none, ↓run3_some, ↓keep_ret, vfinK_some, at_hp, Nat.reduceLT, Int.reduceLT, true_and, Bool.true_and, beq_self_eq_true, dec_t]
      exact ⟨by simp, .inl ⟨rfl, rfl, rfl⟩⟩
    · simp (config := { maxSteps := 2000000 }) (implicitDefEqProofs := false) (disch := first | omega | assumption | (simp only []; done) | fail) only [vop_move, vcallee_move, vop_assign, vcallee_assign, vop_buildSlice, vcallee_buildSlice, vop_builtin, vcallee_builtin, strip_pv, strip_own, optV_none, ev_tmp, put_some, at_mk, fits_some, ↓look_cons, ↓vlook_t, ↓vlook_f, guard_none, ↓vrun_nil, ↓code_skip, ↓code_region, ↓code_seq, ↓code_ret, ↓onNormal_normal, res_one, vres_tmp, allOne_nil, allOne_cons, one_pv, bi_append, ap2_own, parts_nil, evG_eq, ↓vrun_cons, ↓run1_some, ↓runG_true, ↓run2_none, ↓run3_some, ↓keep_ret, vfinK_some, at_hp, List.map_nil, vfill, vbuildSlice, V.mk, vsrc, vbase, vappend, V.kill, List.getElem?_cons_zero, List.length_cons, List.length_nil, List.map_cons, List.map_nil, List.cons_append, List.nil_append, List.append_nil, List.take_nil, List.set_cons_zero, Option.map_some, ↓reduceIte, Nat.reduceAdd, Nat.reduceLT, Nat.reduceLeDiff, Nat.reduceBEq, Int.reduceLT, Int.reduceAdd, Int.reduceBEq, Nat.zero_add, Nat.add_zero, Nat.zero_mul, true_and, and_self, Bool.true_and, Bool.and_self, beq_self_eq_true, Nat.le_refl, Try.velem26, Try.notInt26, Try.vzero73, Try.bytes73, dec_t]
      exact ⟨by simp, .inr ⟨_, .inl rfl, by simp, rfl, rfl⟩⟩
  · have hp : 0 < l.length := List.length_pos_iff.2 hz
    refine vcalls_keep (fn := Try.f48) Try.func48 rfl (by kernel_rfl) (by simp [Try.f48]) ?_
    have h0 := isNil_fz encP l hp
    have hx : (fz encP l)[0]?.map List.length = some 2 := fz_has encP l hp
    have hb : l.length * 16 ≤ 140737488355328 := by omega
    have hfl : pvs (fz encP l) = cells encP l := fz_flat encP l
    simp (config := { maxSteps := 2000000 }) (implicitDefEqProofs := false) (disch := first | omega | assumption | (simp only []; done) | fail) only [vop_move, vcallee_move, vop_assign, vcallee_assign, vop_buildSlice, vcallee_buildSlice, vop_binOp, vcallee_binOp, vop_builtin, vcallee_builtin, bin2_nil, vnilT_sl, vnilc_eql, strip_pv, strip_own, optV_none, ev_tmp, ev_const, ofConst_slice, put_some, at_mk, fits_some, ↓look_cons, ↓vlook_t, ↓vlook_f, guard_none, ↓vrun_nil, ↓code_skip, ↓code_region, ↓code_seq, ↓code_ret, ↓onNormal_normal, res_one, vres_tmp, allOne_nil, allOne_cons, one_pv, bi_append, ap2_own, parts_nil, enum_nil, enum_cons, evG_eq, ↓vrun_cons, ↓run1_some, ↓runG_true, ↓run2_none, ↓run3_some, ↓code_cond, ↓vtest_bool, ↓vbr_false, ↓keep_ret, vfinK_some, at_hp, pvs, List.map_nil, vfill, vbuildSlice, V.mk, slOf, vsrc, vbase, vappend, V.kill, List.toList_toArray, List.getElem?_cons_zero, List.length_cons, List.length_nil, List.map_cons, List.map_nil, List.cons_append, List.nil_append, List.take_nil, List.set_cons_zero, Option.map_some, ↓reduceIte, Nat.reduceAdd, Nat.reduceLT, Nat.reduceLeDiff, Nat.reduceBEq, Int.reduceLT, Int.reduceAdd, Int.reduceBEq, Nat.zero_add, Nat.zero_mul, true_and, and_self, or_true, Bool.or_true, Bool.true_and, Bool.and_self, beq_self_eq_true, Nat.le_refl, fz_len, fz_flat, Try.velem26, Try.notInt26, Try.vzero73, Try.bytes73, dec_t, Try.f48, Try.underlying26, h0, hx, hb]
    exact ⟨by simp, .inr ⟨_, .inl rfl, by simp, rfl, cells_nums _ _ _⟩⟩

theorem indexFP_v (l : List Pl) (hl : l.length ≤ 1000000) (g : FuncId) (caps : List DV) (hc : DV.nums.go (fun _ => false) caps = true) (p : Pl → Bool) (hf : ∀ x ∈ l, VCalls Try.prog g (.agg [.int .i64 x.pg, .int .i64 x.ad] :: caps) [] (Ret (.bool (p x)))) :
    VCalls Try.prog 43 [.pv (.sl (fz encP l)), .fn (.func g) [] caps] [] (Ret (.int .i64 (idxP l p))) := by
  refine vcalls_drop (fn := Try.f43) Try.func43 rfl (by kernel_rfl) (by simp [Try.f43]) ?_
  simp (config := { maxSteps := 2000000 }) (implicitDefEqProofs := false) (disch := first | omega | assumption | (simp only []; done) | fail) only [vop_move, vcallee_move, vop_assign, vcallee_assign, vop_builtin, vcallee_builtin, strip_pv, optV_none, ev_tmp, ev_const, ofConst_int, put_some, at_mk, fits_some, ↓look_cons, ↓vlook_t, ↓vlook_f, guard_none, ↓vrun_nil, ↓code_region, ↓code_seq, ↓code_block, ↓code_loop, ↓onNormal_normal, len_sl, vlk_sl, bi_len, enum_nil, enum_cons, evG_eq, ↓vrun_cons, ↓run1_some, ↓runG_true, ↓run2_none, ↓run3_some, at_hp, List.map_nil, List.toList_toArray, List.length_nil, List.map_cons, List.map_nil, Option.map_some, Nat.reduceAdd, Nat.reduceLT, Nat.reduceBEq, Int.reduceLT, Int.reduceNeg, Int.reduceAdd, Int.reduceBEq, Nat.zero_add, true_and, Bool.true_and, beq_self_eq_true, fz_len, Try.vkind26, dec_t, Try.f43]
  refine vloop (fun i : Pass l (fun x => p x = true) => ⟨19, 0, [(8, .int .i64 i.i), (7, .int .i64 l.length), (0, .pv (.sl (fz encP l))), (1, .fn (.func g) [] caps)], []⟩) (fun i => l.length - i.i) (Pass.start l _) (by refine ⟨rfl, rfl, by simp, ?_, ?_, .inl rfl⟩ <;> (repeat' apply And.intro) <;> first | rfl | trivial) ?_
  intro i
  have hi := i.hi
  simp (config := { maxSteps := 2000000 }) (implicitDefEqProofs := false) (disch := first | omega | assumption | (simp only []; done) | fail) only [vop_binOp, vcallee_binOp, bin2_tmp, strip_pv, optV_none, ev_tmp, put_some, at_mk, fits_some, ↓look_cons, ↓vlook_t, ↓vlook_f, guard_none, ↓vrun_nil, ↓code_region, ↓code_seq, ↓onNormal_normal, bin_int, int_lss, evG_eq, ↓vrun_cons, ↓run1_some, ↓runG_true, ↓run2_none, ↓run3_some, ↓code_cond, ↓vtest_bool, Option.map_some, Nat.reduceLT, Nat.reduceBEq, Int.reduceLT, Int.reduceNeg, Int.reduceBEq, true_and, Bool.true_and, beq_self_eq_true, dec_t]
  refine vbr_split (fun hc1 => ?_) (fun hc1 => ?_) <;> simp only [decide_eq_true_eq, decide_eq_false_iff_not, Bool.or_eq_true, Bool.and_eq_true, Bool.or_eq_false_iff, Bool.and_eq_false_imp, Bool.not_eq_true', Bool.not_eq_false', beq_iff_eq, beq_eq_false_iff_ne, bne_iff_ne, bne_eq_false_iff_eq, ne_eq] at hc1
  · have hlt : i.i < l.length := by omega
    have hg : (fz encP l)[i.i]? = some [.lit (.int .i64 l[i.i].pg), .lit (.int .i64 l[i.i].ad)] := fz_at encP l i.i hlt
    have hm := hf l[i.i] (List.getElem_mem hlt)
    simp (config := { maxSteps := 2000000 }) (implicitDefEqProofs := false) (disch := first | omega | assumption | (simp only [List.length_cons, List.length_nil, Nat.zero_add, Nat.reduceAdd]; done) | fail) only [vop_move, vcallee_move, vop_assign, vcallee_assign, vop_load, vcallee_load, vop_indexAddr, vcallee_indexAddr, vcallee_value, vcal_fn, strip_pv, strip_ip, strip_agg, strip_fn, optV_none, ev_tmp, put_some, at_mk, fits_some, ↓look_cons, ↓vlook_t, ↓vlook_f, guard_none, ↓vrun_nil, ↓code_skip, ↓code_region, ↓code_seq, ↓code_block, ↓onNormal_normal, load_ip, vldp_agg, iaddr_sl, vias_some, evG_eq, ↓vrun_cons, ↓run1_some, ↓runG_true, ↓run2_none, ↓run2_some, ↓run3_some, at_hp, List.map_nil, List.length_cons, List.length_nil, List.map_cons, List.map_nil, List.cons_append, List.nil_append, List.take_succ_cons, List.take_nil, Option.map_some, ↓reduceIte, Nat.reduceAdd, Nat.reduceLT, Nat.reduceBEq, Int.reduceLT, Int.reduceNeg, Int.reduceAdd, Int.reduceBEq, Int.toNat_natCast, Nat.zero_add, true_and, Bool.true_and, beq_self_eq_true, Nat.le_refl, Try.velem26, Try.vt73, dec_t, hg]
    refine vc_pure hm (by simpa [DV.nums.go, DV.nums] using hc) ?_
    simp (config := { maxSteps := 2000000 }) (implicitDefEqProofs := false) (disch := first | omega | assumption) only [optV_none, ev_tmp, put_some, at_mk, ↓look_cons, ↓vlook_t, ↓vrun_nil, ↓onNormal_normal, ↓runK_eq, ↓code_cond, ↓vtest_bool, Int.reduceNeg, beq_self_eq_true]
    refine vbr_split (fun hx => ?_) (fun hx => ?_)
    · simp (config := { maxSteps := 2000000 }) (implicitDefEqProofs := false) (disch := first | omega | assumption | (simp only []; done) | fail) only [vop_move, vcallee_move, vop_assign, vcallee_assign, strip_pv, optV_none, ev_tmp, put_some, at_mk, fits_some, ↓look_cons, ↓vlook_t, ↓vlook_f, guard_none, ↓vrun_nil, ↓code_region, ↓code_seq, ↓code_ret, ↓onNormal_normal, ↓onNormal_ret, ↓onBlock_ret, frz_pv, frzHeap_zero, res_one, vres_tmp, evG_eq, ↓vrun_cons, ↓run1_some, ↓runG_true, ↓run2_none, ↓run3_some, ↓vpost_ret, vfin_some, vfin2_some, at_hp, Nat.reduceLT, Nat.reduceBEq, Int.reduceLT, Int.reduceNeg, Int.reduceBEq, true_and, Bool.true_and, beq_self_eq_true, dec_t, Ret, DV.nums]
      rw [idxP_at l p i.i hlt hx i.no]
    · simp (config := { maxSteps := 2000000 }) (implicitDefEqProofs := false) (disch := first | omega | assumption | (simp only []; done) | fail) only [vop_move, vcallee_move, vop_binOp, vcallee_binOp, bin2_int, strip_pv, optV_none, ev_tmp, ev_const, ofConst_int, put_some, at_mk, fits_some, ↓look_cons, ↓vlook_t, ↓vlook_f, guard_none, ↓vrun_nil, ↓code_skip, ↓code_region, ↓onNormal_normal, ↓onBlock_normal, bin_int, int_add, evG_eq, ↓vrun_cons, ↓run1_some, ↓runG_true, ↓run2_none, ↓run3_some, at_hp, Option.map_some, Nat.reduceLT, Nat.reduceBEq, Int.reduceLT, Int.reduceNeg, Int.reduceBEq, true_and, Bool.true_and, beq_self_eq_true, wrap_i64_in, dec_t]
      exact ⟨i.next hlt (by rw [hx]; simp), by show l.length - (i.i + 1) < l.length - i.i; omega, (by refine ⟨rfl, rfl, by simp, ?_, ?_, .inl rfl⟩ <;> (repeat' apply And.intro) <;> first | rfl | trivial)⟩
  · simp (config := { maxSteps := 2000000 }) (implicitDefEqProofs := false) (disch := first | omega | assumption | (simp only []; done) | fail) only [vop_assign, vcallee_assign, strip_pv, optV_none, ev_const, ofConst_int, put_some, at_mk, fits_some, ↓look_cons, ↓vlook_t, guard_none, ↓vrun_nil, ↓code_region, ↓code_seq, ↓code_exit, ↓code_ret, ↓onNormal_normal, ↓onNormal_exit, ↓onBlock_exit, frz_pv, frzHeap_zero, res_one, vres_tmp, evG_eq, ↓vrun_cons, ↓run1_some, ↓runG_true, ↓run2_none, ↓run3_some, ↓vpost_ret, vfin_some, vfin2_some, at_hp, ↓reduceIte, Nat.reduceLT, Int.reduceLT, Int.reduceNeg, true_and, Bool.true_and, beq_self_eq_true, dec_t, dec_f, Ret, DV.nums]
    have := i.all (by omega)
    rw [idxP, if_neg (by simpa using this)]
end Go.Proofs.Ytjjjlkjhojdnnaa

namespace Go.Proofs.Ytjjjlkjhojdnnaa
open Go.V Go
set_option maxRecDepth 100000
set_option linter.unusedSimpArgs false

theorem ins_endI (l : List Int) (x : Int) : cells encI l ++ cells encI [x] = cells encI (l.take l.length ++ x :: l.drop l.length) := by
  rw [List.take_length, List.drop_length, ← cells_app]
theorem ins_upI (l : List Int) (i : Nat) (h : i < l.length) : splice (cells encI l) ((i + 1)) (((cells encI l).drop (i)).take ((l.length - i))) = cells encI (l.take (i + 1) ++ l.drop i) := by
  have e1 : (cells encI l).drop (i) = cells encI (l.drop i) := by have := cells_drop encI l i; simpa [encI] using this
  have e2 : (cells encI (l.drop i)).take ((l.length - i)) = cells encI (l.drop i) := cells_all encI _ _ (by rw [List.length_drop]; show _ = (l.length - i) * 1; omega)
  have e3 := splice_cells encI l (l.drop i) (i + 1)
  rw [List.drop_of_length_le (i := i + 1 + (l.drop i).length) (by rw [List.length_drop]; omega), List.append_nil] at e3
  rw [e1, e2, ← e3]; simp [encI]
  
theorem ins_inI (l : List Int) (x : Int) (i : Nat) (h : i < l.length) : splice (cells encI (l.take (i + 1) ++ l.drop i)) (i) (cells encI [x]) = cells encI (l.take i ++ x :: l.drop i) := by
  have e3 := splice_cells encI (l.take (i + 1) ++ l.drop i) [x] i
  have e1 : (l.take (i + 1) ++ l.drop i).take i = l.take i := by rw [List.take_append_of_le_length (by rw [List.length_take]; omega), List.take_take, Nat.min_eq_left (by omega)]
  have e2 : (l.take (i + 1) ++ l.drop i).drop (i + 1) = l.drop i := by rw [List.drop_append_of_le_length (by rw [List.length_take]; omega), List.drop_of_length_le (by rw [List.length_take]; omega), List.nil_append]
  rw [e1, show i + [x].length = i + 1 from rfl, e2, List.append_assoc] at e3
  simpa [encI] using e3
theorem ins_g1I (l : List Int) (i m : Nat) : (cells encI l).take (i) ++ mk [.pv (.lit (.int .i64 0))] m = cells encI (l.take i ++ List.replicate m 0) := by
  have e1 := cells_take encI l i
  have e2 : mk [.pv (.lit (.int .i64 0))] m = cells encI (List.replicate m 0) := mk_cells encI 0 m
  rw [e2, cells_app, ← e1]; simp [encI]
  
theorem ins_g1bI (l : List Int) (i m : Nat) : (cells encI l).take (i) ++ cells encI (List.replicate m 0) = cells encI (l.take i ++ List.replicate m 0) := by
  have e1 := ins_g1I l i m
  have e2 : mk [.pv (.lit (.int .i64 0))] m = cells encI (List.replicate m 0) := mk_cells encI 0 m
  rwa [e2] at e1
theorem ins_g2I (l : List Int) (x : Int) (i : Nat) (h : i < l.length) : splice (cells encI (l.take i ++ List.replicate (l.length + 1 - i) 0)) (i) (cells encI [x]) = cells encI (l.take i ++ x :: List.replicate (l.length - i) 0) := by
  have e3 := splice_cells encI (l.take i ++ List.replicate (l.length + 1 - i) 0) [x] i
  have hlt : (l.take i).length = i := by rw [List.length_take]; omega
  have e1 : (l.take i ++ List.replicate (l.length + 1 - i) 0).take i = l.take i := by rw [List.take_append_of_le_length (by omega), List.take_take, Nat.min_self]
  have e2 : (l.take i ++ List.replicate (l.length + 1 - i) 0).drop (i + 1) = List.replicate (l.length - i) 0 := by
    rw [List.drop_append, hlt, List.drop_of_length_le (by omega), List.nil_append, List.drop_replicate]
    congr 1; omega
  rw [e1, show i + [x].length = i + 1 from rfl, e2, List.append_assoc] at e3
  simpa [encI] using e3
theorem ins_g3I (l : List Int) (x : Int) (i : Nat) (h : i < l.length) : splice (cells encI (l.take i ++ x :: List.replicate (l.length - i) 0)) ((i + 1)) (((cells encI l).drop (i)).take ((l.length - i))) = cells encI (l.take i ++ x :: l.drop i) := by
  have e1 : (cells encI l).drop (i) = cells encI (l.drop i) := by have := cells_drop encI l i; simpa [encI] using this
  have e2 : (cells encI (l.drop i)).take ((l.length - i)) = cells encI (l.drop i) := cells_all encI _ _ (by rw [List.length_drop]; show _ = (l.length - i) * 1; omega)
  have e3 := splice_cells encI (l.take i ++ x :: List.replicate (l.length - i) 0) (l.drop i) (i + 1)
  have hlt : (l.take i ++ [x]).length = i + 1 := by rw [List.length_append, List.length_take, List.length_singleton]; omega
  have ea : l.take i ++ x :: List.replicate (l.length - i) 0 = (l.take i ++ [x]) ++ List.replicate (l.length - i) 0 := by simp
  have e4 : (l.take i ++ x :: List.replicate (l.length - i) 0).take (i + 1) = l.take i ++ [x] := by rw [ea, List.take_append_of_le_length (by omega), List.take_of_length_le (by omega)]
  rw [e4, List.drop_of_length_le (i := i + 1 + (l.drop i).length) (by rw [ea, List.length_append, hlt, List.length_replicate, List.length_drop]; omega), List.append_nil] at e3
  have e5 : l.take i ++ x :: l.drop i = l.take i ++ [x] ++ l.drop i := by simp
  rw [e1, e2, e5, ← e3]; simp [encI]
  
theorem one_lenI (x : Int) : (cells encI [x]).length = 1 := by rw [cells_len]; rfl
set_option maxHeartbeats 2000000 in
theorem insertI_v (l : List Int) (x : Int) (i : Nat) (hi : i ≤ l.length) (hl : l.length ≤ 1000000) :
    VCalls Try.prog 46 [.own 0 1 0 l.length, .int .i64 i, .own 1 1 0 1] [⟨3, true, cells encI l⟩, ⟨3, true, cells encI [x]⟩]
      (NewSl noK [⟨3, true, cells encI l⟩, ⟨3, true, cells encI [x]⟩] 1 (l.length + 1) 3 (cells encI (l.take i ++ x :: l.drop i))) := by
  refine VCalls.newSl ?_
  have hcl : (cells encI l).length = l.length := cells_len encI l |>.trans (Nat.mul_one _)
  have hc1 := one_lenI x
  by_cases he : i = l.length
  · subst he
    refine vcalls_keep (fn := Try.f46) Try.func46 rfl (by kernel_rfl) (by simp [Try.f46]) ?_
    have hb : (l.length + 1) * 8 ≤ 140737488355328 := by omega
    have hta : (cells encI l).take (l.length) = cells encI l := cells_all encI l _ (by show _ = l.length * 1; omega)
    have ht1 : (cells encI [x]).take 1 = cells encI [x] := cells_all encI [x] _ rfl
    simp (config := { maxSteps := 2000000 }) (implicitDefEqProofs := false) (disch := first | omega | assumption | (simp only []; done) | fail) only [vop_move, vcallee_move, vop_assign, vcallee_assign, vop_binOp, vcallee_binOp, vop_slice, vcallee_slice, vop_builtin, vcallee_builtin, bin2_tmp, bin2_int, strip_pv, strip_own, optV_none, ev_tmp, ev_const, ofConst_int, ofConst_slice, put_some, at_mk, fits_some, ↓look_cons, ↓vlook_t, ↓vlook_f, guard_none, ↓vrun_nil, ↓code_skip, ↓code_region, ↓code_seq, ↓code_ret, ↓onNormal_normal, ↓onNormal_ret, res_one, vres_tmp, blk_zero, blk_succ, bin_int, int_eql, vlk_sl, len_own, bi_len, bi_append, ap2_own, vslo_end, slice_own_lo, enum_nil, enum_cons, evG_eq, ↓vrun_cons, ↓run1_some, ↓runG_true, ↓run2_none, ↓run3_some, ↓code_cond, ↓vtest_bool, ↓vbr_true, ↓vbr_false, ↓keep_ret, vfinK_some, at_hp, slice_own, List.map_nil, vsrc, vbase, vappend, V.kill, List.toList_toArray, List.getElem?_cons_zero, List.length_cons, List.length_nil, List.map_cons, List.map_nil, List.cons_append, List.nil_append, List.drop_zero, List.set_cons_zero, Option.map_some, Option.map_none, ↓reduceIte, Nat.reduceAdd, Nat.reduceLT, Nat.reduceBEq, Int.reduceLT, Int.reduceAdd, Int.reduceBEq, Int.toNat_natCast, Nat.zero_add, Nat.mul_one, true_and, and_self, Bool.true_and, Bool.and_self, beq_self_eq_true, Nat.le_refl, Try.vzero3, Try.bytes3, Try.velem27, Try.notInt27, Try.vkind27, dec_t, int_beq_f, Try.f46, hcl, hc1, hta, ht1, hb]
    exact ⟨by simp, .inr ⟨_, .inl rfl, by simp, by rw [← ins_endI]; rfl, cells_nums _ _ _⟩⟩
  · have hlt : i < l.length := by omega
    refine VCalls.room (by omega) fun cap hcap => ?_
    by_cases hr : l.length + 1 ≤ cap
    · have hr1 : ¬ (cap : Int) < (l.length : Int) + 1 := by omega
      have hi1 : i + 1 ≤ l.length + 1 := by omega
      have hic : i + 1 ≤ cap := by omega
      have hne : ¬ (i : Int) = l.length := by omega
      have ei : ((i : Int) + 1).toNat = i + 1 := by omega
      have el : ((l.length : Int) + 1).toNat = l.length + 1 := by omega
      refine vcalls_keep (fn := Try.f46) Try.func46 rfl (by kernel_rfl) (by simp [Try.f46]) ?_
      simp (config := { maxSteps := 2000000 }) (implicitDefEqProofs := false) (disch := first | omega | assumption | (simp only []; done) | fail) only [vop_move, vcallee_move, vop_assign, vcallee_assign, vop_binOp, vcallee_binOp, vop_slice, vcallee_slice, vop_builtin, vcallee_builtin, vcallee_value, vcal_fn, bin2_tmp, bin2_int, strip_pv, strip_own, strip_fn, optV_none, ev_tmp, ev_const, ev_func, ofConst_int, ofConst_slice, put_some, at_mk, fits_some, ↓look_cons, ↓vlook_t, ↓vlook_f, guard_none, ↓vrun_nil, ↓code_skip, ↓code_region, ↓code_seq, ↓onNormal_normal, strip_ownc, bin_int, int_add, int_eql, int_gtr, vlk_sl, len_own, bi_len, bi_cap, cap_ownc, vck_sl, len_ownc, slice_ownc, slice_ownc_hi, slice_ownc_lo, vslc0_some, vslc_some, enum_nil, enum_cons, evG_eq, ↓vrun_cons, ↓run1_some, ↓runG_true, ↓run2_none, ↓run2_some, ↓run3_some, ↓code_cond, ↓vtest_bool, ↓vbr_false, at_hp, List.map_nil, List.toList_toArray, List.length_cons, List.length_nil, List.map_cons, List.map_nil, List.nil_append, List.append_nil, Option.map_some, Option.map_none, Nat.reduceAdd, Nat.reduceLT, Nat.reduceBEq, Int.reduceLT, Int.reduceAdd, Int.reduceBEq, Int.toNat_natCast, Nat.zero_add, Nat.mul_one, decide_false, true_and, Bool.true_and, beq_self_eq_true, Try.velem27, Try.vkind27, wrap_i64_in, dec_t, int_beq_f, Try.f46, hr1, Int.natCast_one, ei, el]
      refine (vcalls_apart (k := 1) (k2 := 0) (fn := Try.f70) (tS := 27) (tR := 4) (e := 3) (n := 1) Try.func70 (by kernel_rfl) rfl (by kernel_rfl) (by kernel_rfl) (by kernel_rfl) rfl rfl rfl rfl (by decide) (by omega) (by show 0 < (cells encI l).length; omega)).mono ?_
      rintro r h' ⟨rfl, rfl⟩
      simp (config := { maxSteps := 2000000 }) (implicitDefEqProofs := false) (disch := first | omega | assumption | (simp only []; done) | fail) only [vop_unOp, vcallee_unOp, strip_pv, optV_none, ev_tmp, put_some, at_mk, fits_some, ↓look_cons, ↓vlook_t, guard_none, ↓vrun_nil, ↓code_draw, ↓code_seq, ↓onNormal_normal, un_not, evG_eq, ↓vrun_cons, ↓run1_some, ↓runG_true, ↓run2_none, ↓run3_some, ↓runK_eq, ↓code_cond, ↓vtest_bool, ↓vbr_true, at_hp, Option.map_some, Nat.reduceLT, Int.reduceLT, true_and, Bool.not_false, Bool.true_and, beq_self_eq_true, dec_t]
      refine vspine [0, 1, 2, 3, 4, 5, 6, 7] [⟨[], [], 8, [0, 1, 2, 3, 5, 6], []⟩] (by kernel_rfl) (by kernel_rfl) ?_
      have hmin : min (l.length + 1 - i) (l.length + 1 - (i + 1)) = l.length - i := by omega
      have hmin2 : min 1 (l.length + 1 - i) = 1 := by omega
      have hof : (i + 1) ≤ l.length := by omega
      have hle : (l.length - i) ≤ l.length - i := by omega
      have hup := ins_upI l i hlt
      have hin := ins_inI l x i hlt
      have hl2 : (cells encI (l.take (i + 1) ++ l.drop i)).length = (l.length + 1) := by rw [cells_len, List.length_append, List.length_take, List.length_drop]; show _ * 1 = _; omega
      have hof2 : i ≤ (l.length + 1) := by omega
      have ht1 : (cells encI [x]).take 1 = cells encI [x] := cells_all encI [x] _ rfl
      simp (config := { maxSteps := 2000000 }) (implicitDefEqProofs := false) (disch := first | omega | assumption | (simp only []; done) | fail) only [vop_move, vcallee_move, foot_move, vop_assign, vcallee_assign, vop_binOp, vcallee_binOp, foot_binOp, vop_slice, vcallee_slice, vop_builtin, vcallee_builtin, bin2_tmp, strip_pv, strip_own, optV_none, ev_tmp, put_some, at_mk, fits_some, ↓look_cons, ↓vlook_t, ↓vlook_f, guard_none, ↓vrun_nil, ↓code_region, ↓code_seq, ↓code_ret, ↓onNormal_normal, ↓onNormal_ret, strip_ownc, res_one, vres_tmp, blk_zero, blk_succ, set_zero, bin_int, int_add, cp2_co, cp2_cc, slice_ownc, slice_ownc_lo, vslc_some, bi_copy, evG_eq, ↓vrun_cons, ↓run1_some, ↓runG_true, ↓run2_none, ↓run3_some, ↓keep_ret, vfinK_some, at_hp, List.map_nil, vsrc, vcopyC, srcL, dstC, List.getElem?_cons_zero, List.getElem?_cons_succ, List.map_cons, List.map_nil, List.nil_append, List.drop_zero, Option.map_some, Option.map_none, ↓reduceIte, Nat.reduceLT, Nat.reduceBEq, Int.reduceLT, Int.reduceBEq, Int.toNat_natCast, Nat.zero_add, Nat.mul_one, true_and, and_self, Bool.true_and, Bool.and_self, beq_self_eq_true, Nat.le_refl, ↓vsp_nil, ↓vsp_cons, ↓vspK_eq, vspC_true, vspR_eq, pick_nil, pick_cons, pickO_some, creas_nil, agree_nil, agree_cons, agree1_some, sameAt_nil, Try.velem27, wrap_i64_in, dec_t, hcl, hc1, Int.natCast_one, ei, hmin, hmin2, hof, hle, List.length_drop, hup, hin, hl2, hof2, ht1]
      exact ⟨by simp, .inr ⟨0, .inr ⟨cap, by omega, rfl⟩, by simp, rfl, cells_nums _ _ _⟩⟩
    · have hr1 : (cap : Int) < (l.length : Int) + 1 := by omega
      have hne : ¬ (i : Int) = l.length := by omega
      have ei : ((i : Int) + 1).toNat = i + 1 := by omega
      have eL : ((l.length : Int) + 1 - i).toNat = l.length + 1 - i := by omega
      have eS : i + (l.length + 1 - i) = l.length + 1 := by omega
      have hb : (l.length + 1) * 8 ≤ 140737488355328 := by omega
      have hcz : cap < l.length + 1 := by omega
      have hl0 : (0 : Int) < (l.length : Int) + 1 - i := by omega
      have hlz : (l.length : Int) + 1 - i ≤ 1000000000 := by omega
      have hoi : i ≤ l.length := by omega
      have hic : i ≤ cap := by omega
      have hg1 := ins_g1I l i (l.length + 1 - i)
      have hg1b := ins_g1bI l i (l.length + 1 - i)
      have hg2 := ins_g2I l x i hlt
      have hg3 := ins_g3I l x i hlt
      have hmin : min 1 (l.length + 1 - i) = 1 := by omega
      have hmin2 : min (l.length - i) (l.length + 1 - (i + 1)) = l.length - i := by omega
      have hl1 : (cells encI (l.take i ++ List.replicate (l.length + 1 - i) 0)).length = (l.length + 1) := by rw [cells_len, List.length_append, List.length_take, List.length_replicate]; show _ * 1 = _; omega
      have hl2 : (cells encI (l.take i ++ x :: List.replicate (l.length - i) 0)).length = (l.length + 1) := by rw [cells_len, List.length_append, List.length_take, List.length_cons, List.length_replicate]; show _ * 1 = _; omega
      have ht1 : (cells encI [x]).take 1 = cells encI [x] := cells_all encI [x] _ rfl
      have hf1 : i + (l.length + 1 - i) ≤ (l.length + 1) := by omega
      have hf2 : (i + 1) ≤ (l.length + 1) := by omega
      have hle : (l.length - i) ≤ l.length - i := by omega
      refine vcalls_keep (fn := Try.f46) Try.func46 rfl (by kernel_rfl) (by simp [Try.f46]) ?_
      simp (config := { maxSteps := 2000000 }) (implicitDefEqProofs := false) (disch := first | omega | assumption | (simp only []; done) | fail) only [vop_move, vcallee_move, vop_assign, vcallee_assign, vop_binOp, vcallee_binOp, vop_slice, vcallee_slice, vop_builtin, vcallee_builtin, bin2_tmp, bin2_int, strip_pv, strip_own, optV_none, ev_tmp, ev_const, ofConst_int, ofConst_slice, put_some, at_mk, fits_some, ↓look_cons, ↓vlook_t, ↓vlook_f, guard_none, ↓vrun_nil, ↓code_skip, ↓code_region, ↓code_draw, ↓code_seq, ↓onNormal_normal, strip_ownc, blk_zero, blk_succ, set_zero, set_succ, allOne_nil, allOne_cons, one_pv, bin_int, int_add, int_sub, int_eql, int_gtr, vlk_sl, len_own, bi_len, bi_append, ap2_cz, vapz1_some, bi_cap, cap_ownc, vck_sl, cp2_oo, len_ownc, slice_ownc, slice_own_lo, slice_ownc_hi, slice_ownc_lo, vslo_some, vslc0_some, vslc_some, bi_copy, enum_nil, enum_cons, evG_eq, ↓vrun_cons, ↓run1_some, ↓runG_true, ↓run2_none, ↓run3_some, ↓code_cond, ↓vtest_bool, ↓vbr_true, ↓vbr_false, at_hp, slice_own, List.map_nil, vsrc, vcopy, vapz2, List.toList_toArray, List.getElem?_cons_zero, List.length_cons, List.length_nil, List.map_cons, List.map_nil, List.cons_append, List.nil_append, List.drop_zero, Option.map_some, Option.map_none, ↓reduceIte, Nat.reduceAdd, Nat.reduceLT, Nat.reduceBEq, Int.reduceLT, Int.reduceAdd, Int.reduceBEq, Int.toNat_natCast, Nat.zero_add, Nat.mul_one, true_and, and_self, Bool.true_and, Bool.and_self, beq_self_eq_true, Nat.le_refl, mkI, Try.vkind3, Try.vzero3, Try.bytes3, Try.velem27, Try.vkind27, wrap_i64_in, dec_t, int_beq_f, Try.f46, hcl, hc1, hr1, Int.natCast_one, eL, eS, hb, hcz, hl0, hlz, hoi, hg1b, hg2, hmin, hl1, ht1]
      refine vspine [0, 1, 2, 3, 4, 5, 6, 7] [⟨[], [], 8, [0, 1, 2, 3, 5, 6], []⟩] (by kernel_rfl) (by kernel_rfl) ?_
      simp (config := { maxSteps := 2000000 }) (implicitDefEqProofs := false) (disch := first | omega | assumption | (simp only []; done) | fail) only [vop_move, vcallee_move, foot_move, vop_assign, vcallee_assign, vop_binOp, vcallee_binOp, foot_binOp, vop_slice, vcallee_slice, vop_builtin, vcallee_builtin, bin2_tmp, strip_pv, strip_own, optV_none, ev_tmp, put_some, at_mk, fits_some, ↓look_cons, ↓vlook_t, ↓vlook_f, guard_none, ↓vrun_nil, ↓code_region, ↓code_seq, ↓code_ret, ↓onNormal_normal, ↓onNormal_ret, strip_ownc, res_one, vres_tmp, blk_zero, blk_succ, set_zero, set_succ, bin_int, int_add, cp2_oc, slice_ownc, slice_own_lo, slice_ownc_lo, vslo_some, vslc_some, bi_copy, evG_eq, ↓vrun_cons, ↓run1_some, ↓runG_true, ↓run2_none, ↓run3_some, ↓keep_ret, vfinK_some, at_hp, slice_own, List.map_nil, vcopyC, srcL, dstC, List.getElem?_cons_zero, List.getElem?_cons_succ, List.map_cons, List.map_nil, List.nil_append, Option.map_some, Option.map_none, ↓reduceIte, Nat.reduceLT, Nat.reduceBEq, Int.reduceLT, Int.reduceBEq, Int.toNat_natCast, Nat.zero_add, Nat.mul_one, true_and, and_self, Bool.true_and, Bool.and_self, beq_self_eq_true, ↓vsp_nil, ↓vsp_cons, ↓vspK_eq, vspC_true, vspR_eq, pick_nil, pick_cons, pickO_some, creas_nil, agree_nil, agree_cons, agree1_some, sameAt_nil, Try.velem27, wrap_i64_in, dec_t, hcl, ei, hg3, hmin2, hl2, hf2, hle, List.length_drop]
      exact ⟨by simp, .inr ⟨2, .inl rfl, by simp, rfl, cells_nums _ _ _⟩⟩

theorem ins_endP (l : List Pl) (x : Pl) : cells encP l ++ cells encP [x] = cells encP (l.take l.length ++ x :: l.drop l.length) := by
  rw [List.take_length, List.drop_length, ← cells_app]
theorem ins_upP (l : List Pl) (i : Nat) (h : i < l.length) : splice (cells encP l) ((i + 1) * 2) (((cells encP l).drop (i * 2)).take ((l.length - i) * 2)) = cells encP (l.take (i + 1) ++ l.drop i) := by
  have e1 : (cells encP l).drop (i * 2) = cells encP (l.drop i) := by have := cells_drop encP l i; simpa [encP] using this
  have e2 : (cells encP (l.drop i)).take ((l.length - i) * 2) = cells encP (l.drop i) := cells_all encP _ _ (by rw [List.length_drop]; show _ = (l.length - i) * 2; omega)
  have e3 := splice_cells encP l (l.drop i) (i + 1)
  rw [List.drop_of_length_le (i := i + 1 + (l.drop i).length) (by rw [List.length_drop]; omega), List.append_nil] at e3
  rw [e1, e2, ← e3]
  rfl
theorem ins_inP (l : List Pl) (x : Pl) (i : Nat) (h : i < l.length) : splice (cells encP (l.take (i + 1) ++ l.drop i)) (i * 2) (cells encP [x]) = cells encP (l.take i ++ x :: l.drop i) := by
  have e3 := splice_cells encP (l.take (i + 1) ++ l.drop i) [x] i
  have e1 : (l.take (i + 1) ++ l.drop i).take i = l.take i := by rw [List.take_append_of_le_length (by rw [List.length_take]; omega), List.take_take, Nat.min_eq_left (by omega)]
  have e2 : (l.take (i + 1) ++ l.drop i).drop (i + 1) = l.drop i := by rw [List.drop_append_of_le_length (by rw [List.length_take]; omega), List.drop_of_length_le (by rw [List.length_take]; omega), List.nil_append]
  rw [e1, show i + [x].length = i + 1 from rfl, e2, List.append_assoc] at e3
  exact e3
theorem ins_g1P (l : List Pl) (i m : Nat) : (cells encP l).take (i * 2) ++ mk [.pv (.lit (.int .i64 0)), .pv (.lit (.int .i64 0))] m = cells encP (l.take i ++ List.replicate m (⟨0, 0⟩ : Pl)) := by
  have e1 := cells_take encP l i
  have e2 : mk [.pv (.lit (.int .i64 0)), .pv (.lit (.int .i64 0))] m = cells encP (List.replicate m (⟨0, 0⟩ : Pl)) := mk_cells encP (⟨0, 0⟩ : Pl) m
  rw [e2, cells_app, ← e1]
  rfl
theorem ins_g1bP (l : List Pl) (i m : Nat) : (cells encP l).take (i * 2) ++ cells encP (List.replicate m (⟨0, 0⟩ : Pl)) = cells encP (l.take i ++ List.replicate m (⟨0, 0⟩ : Pl)) := by
  have e1 := ins_g1P l i m
  have e2 : mk [.pv (.lit (.int .i64 0)), .pv (.lit (.int .i64 0))] m = cells encP (List.replicate m (⟨0, 0⟩ : Pl)) := mk_cells encP (⟨0, 0⟩ : Pl) m
  rwa [e2] at e1
theorem ins_g2P (l : List Pl) (x : Pl) (i : Nat) (h : i < l.length) : splice (cells encP (l.take i ++ List.replicate (l.length + 1 - i) (⟨0, 0⟩ : Pl))) (i * 2) (cells encP [x]) = cells encP (l.take i ++ x :: List.replicate (l.length - i) (⟨0, 0⟩ : Pl)) := by
  have e3 := splice_cells encP (l.take i ++ List.replicate (l.length + 1 - i) (⟨0, 0⟩ : Pl)) [x] i
  have hlt : (l.take i).length = i := by rw [List.length_take]; omega
  have e1 : (l.take i ++ List.replicate (l.length + 1 - i) (⟨0, 0⟩ : Pl)).take i = l.take i := by rw [List.take_append_of_le_length (by omega), List.take_take, Nat.min_self]
  have e2 : (l.take i ++ List.replicate (l.length + 1 - i) (⟨0, 0⟩ : Pl)).drop (i + 1) = List.replicate (l.length - i) (⟨0, 0⟩ : Pl) := by
    rw [List.drop_append, hlt, List.drop_of_length_le (by omega), List.nil_append, List.drop_replicate]
    congr 1; omega
  rw [e1, show i + [x].length = i + 1 from rfl, e2, List.append_assoc] at e3
  exact e3
theorem ins_g3P (l : List Pl) (x : Pl) (i : Nat) (h : i < l.length) : splice (cells encP (l.take i ++ x :: List.replicate (l.length - i) (⟨0, 0⟩ : Pl))) ((i + 1) * 2) (((cells encP l).drop (i * 2)).take ((l.length - i) * 2)) = cells encP (l.take i ++ x :: l.drop i) := by
  have e1 : (cells encP l).drop (i * 2) = cells encP (l.drop i) := by have := cells_drop encP l i; simpa [encP] using this
  have e2 : (cells encP (l.drop i)).take ((l.length - i) * 2) = cells encP (l.drop i) := cells_all encP _ _ (by rw [List.length_drop]; show _ = (l.length - i) * 2; omega)
  have e3 := splice_cells encP (l.take i ++ x :: List.replicate (l.length - i) (⟨0, 0⟩ : Pl)) (l.drop i) (i + 1)
  have hlt : (l.take i ++ [x]).length = i + 1 := by rw [List.length_append, List.length_take, List.length_singleton]; omega
  have ea : l.take i ++ x :: List.replicate (l.length - i) (⟨0, 0⟩ : Pl) = (l.take i ++ [x]) ++ List.replicate (l.length - i) (⟨0, 0⟩ : Pl) := by simp
  have e4 : (l.take i ++ x :: List.replicate (l.length - i) (⟨0, 0⟩ : Pl)).take (i + 1) = l.take i ++ [x] := by rw [ea, List.take_append_of_le_length (by omega), List.take_of_length_le (by omega)]
  rw [e4, List.drop_of_length_le (i := i + 1 + (l.drop i).length) (by rw [ea, List.length_append, hlt, List.length_replicate, List.length_drop]; omega), List.append_nil] at e3
  have e5 : l.take i ++ x :: l.drop i = l.take i ++ [x] ++ l.drop i := by simp
  rw [e1, e2, e5, ← e3]
  rfl
theorem one_lenP (x : Pl) : (cells encP [x]).length = 2 := by rw [cells_len]; rfl
set_option maxHeartbeats 2000000 in
theorem insertP_v (l : List Pl) (x : Pl) (i : Nat) (hi : i ≤ l.length) (hl : l.length ≤ 1000000) :
    VCalls Try.prog 49 [.own 0 2 0 l.length, .int .i64 i, .own 1 2 0 1] [⟨73, true, cells encP l⟩, ⟨73, true, cells encP [x]⟩]
      (NewSl noK [⟨73, true, cells encP l⟩, ⟨73, true, cells encP [x]⟩] 2 (l.length + 1) 73 (cells encP (l.take i ++ x :: l.drop i))) := by
  refine VCalls.newSl ?_
  have hcl : (cells encP l).length = l.length * 2 := cells_len encP l
  have hc1 := one_lenP x
  by_cases he : i = l.length
  · subst he
    refine vcalls_keep (fn := Try.f49) Try.func49 rfl (by kernel_rfl) (by simp [Try.f49]) ?_
    have hb : (l.length + 1) * 16 ≤ 140737488355328 := by omega
    have hta : (cells encP l).take (l.length * 2) = cells encP l := cells_all encP l _ (by show _ = l.length * 2; omega)
    have ht1 : (cells encP [x]).take 2 = cells encP [x] := cells_all encP [x] _ rfl
    simp (config := { maxSteps := 2000000 }) (implicitDefEqProofs := false) (disch := first | omega | assumption | (simp only []; done) | fail) only [vop_move, vcallee_move, vop_assign, vcallee_assign, vop_binOp, vcallee_binOp, vop_slice, vcallee_slice, vop_builtin, vcallee_builtin, bin2_tmp, bin2_int, strip_pv, strip_own, optV_none, ev_tmp, ev_const, ofConst_int, ofConst_slice, put_some, at_mk, fits_some, ↓look_cons, ↓vlook_t, ↓vlook_f, guard_none, ↓vrun_nil, ↓code_skip, ↓code_region, ↓code_seq, ↓code_ret, ↓onNormal_normal, ↓onNormal_ret, res_one, vres_tmp, blk_zero, blk_succ, bin_int, int_eql, vlk_sl, len_own, bi_len, bi_append, ap2_own, vslo_end, slice_own_lo, enum_nil, enum_cons, evG_eq, ↓vrun_cons, ↓run1_some, ↓runG_true, ↓run2_none, ↓run3_some, ↓code_cond, ↓vtest_bool, ↓vbr_true, ↓vbr_false, ↓keep_ret, vfinK_some, at_hp, slice_own, List.map_nil, vsrc, vbase, vappend, V.kill, List.toList_toArray, List.getElem?_cons_zero, List.length_cons, List.length_nil, List.map_cons, List.map_nil, List.cons_append, List.nil_append, List.drop_zero, List.set_cons_zero, Option.map_some, Option.map_none, ↓reduceIte, Nat.reduceAdd, Nat.reduceLT, Nat.reduceBEq, Int.reduceLT, Int.reduceAdd, Int.reduceBEq, Int.toNat_natCast, Nat.zero_add, Nat.one_mul, true_and, and_self, Bool.true_and, Bool.and_self, beq_self_eq_true, Nat.le_refl, Try.velem26, Try.notInt26, Try.vkind26, Try.vzero73, Try.bytes73, dec_t, int_beq_f, Try.f49, hcl, hc1, hta, ht1, hb]
    exact ⟨by simp, .inr ⟨_, .inl rfl, by simp, by rw [← ins_endP]; rfl, cells_nums _ _ _⟩⟩
  · have hlt : i < l.length := by omega
    refine VCalls.room (by omega) fun cap hcap => ?_
    by_cases hr : l.length + 1 ≤ cap
    · have hr1 : ¬ (cap : Int) < (l.length : Int) + 1 := by omega
      have hi1 : i + 1 ≤ l.length + 1 := by omega
      have hic : i + 1 ≤ cap := by omega
      have hne : ¬ (i : Int) = l.length := by omega
      have ei : ((i : Int) + 1).toNat = i + 1 := by omega
      have el : ((l.length : Int) + 1).toNat = l.length + 1 := by omega
      refine vcalls_keep (fn := Try.f49) Try.func49 rfl (by kernel_rfl) (by simp [Try.f49]) ?_
      simp (config := { maxSteps := 2000000 }) (implicitDefEqProofs := false) (disch := first | omega | assumption | (simp only []; done) | fail) only [vop_move, vcallee_move, vop_assign, vcallee_assign, vop_binOp, vcallee_binOp, vop_slice, vcallee_slice, vop_builtin, vcallee_builtin, vcallee_value, vcal_fn, bin2_tmp, bin2_int, strip_pv, strip_own, strip_fn, optV_none, ev_tmp, ev_const, ev_func, ofConst_int, ofConst_slice, put_some, at_mk, fits_some, ↓look_cons, ↓vlook_t, ↓vlook_f, guard_none, ↓vrun_nil, ↓code_skip, ↓code_region, ↓code_seq, ↓onNormal_normal, strip_ownc, bin_int, int_add, int_eql, int_gtr, vlk_sl, len_own, bi_len, bi_cap, cap_ownc, vck_sl, len_ownc, slice_ownc, slice_ownc_hi, slice_ownc_lo, vslc0_some, vslc_some, enum_nil, enum_cons, evG_eq, ↓vrun_cons, ↓run1_some, ↓runG_true, ↓run2_none, ↓run2_some, ↓run3_some, ↓code_cond, ↓vtest_bool, ↓vbr_false, at_hp, List.map_nil, List.toList_toArray, List.length_cons, List.length_nil, List.map_cons, List.map_nil, List.nil_append, List.append_nil, Option.map_some, Option.map_none, Nat.reduceAdd, Nat.reduceLT, Nat.reduceBEq, Int.reduceLT, Int.reduceAdd, Int.reduceBEq, Int.toNat_natCast, Nat.zero_add, decide_false, true_and, Bool.true_and, beq_self_eq_true, Try.velem26, Try.vkind26, wrap_i64_in, dec_t, int_beq_f, Try.f49, hr1, Int.natCast_one, ei, el]
      refine (vcalls_apart (k := 1) (k2 := 0) (fn := Try.f72) (tS := 26) (tR := 4) (e := 73) (n := 2) Try.func72 (by kernel_rfl) rfl (by kernel_rfl) (by kernel_rfl) (by kernel_rfl) rfl rfl rfl rfl (by decide) (by omega) (by show 0 < (cells encP l).length; omega)).mono ?_
      rintro r h' ⟨rfl, rfl⟩
      simp (config := { maxSteps := 2000000 }) (implicitDefEqProofs := false) (disch := first | omega | assumption | (simp only []; done) | fail) only [vop_unOp, vcallee_unOp, strip_pv, optV_none, ev_tmp, put_some, at_mk, fits_some, ↓look_cons, ↓vlook_t, guard_none, ↓vrun_nil, ↓code_draw, ↓code_seq, ↓onNormal_normal, un_not, evG_eq, ↓vrun_cons, ↓run1_some, ↓runG_true, ↓run2_none, ↓run3_some, ↓runK_eq, ↓code_cond, ↓vtest_bool, ↓vbr_true, at_hp, Option.map_some, Nat.reduceLT, Int.reduceLT, true_and, Bool.not_false, Bool.true_and, beq_self_eq_true, dec_t]
      refine vspine [0, 1, 2, 3, 4, 5, 6, 7] [⟨[], [], 8, [0, 1, 2, 3, 5, 6], []⟩] (by kernel_rfl) (by kernel_rfl) ?_
      have hmin : min (l.length + 1 - i) (l.length + 1 - (i + 1)) = l.length - i := by omega
      have hmin2 : min 1 (l.length + 1 - i) = 1 := by omega
      have hof : (i + 1) * 2 ≤ l.length * 2 := by omega
      have hle : (l.length - i) * 2 ≤ l.length * 2 - i * 2 := by omega
      have hup := ins_upP l i hlt
      have hin := ins_inP l x i hlt
      have hl2 : (cells encP (l.take (i + 1) ++ l.drop i)).length = (l.length + 1) * 2 := by rw [cells_len, List.length_append, List.length_take, List.length_drop]; show _ * 2 = _; omega
      have hof2 : i * 2 ≤ (l.length + 1) * 2 := by omega
      have ht1 : (cells encP [x]).take 2 = cells encP [x] := cells_all encP [x] _ rfl
      simp (config := { maxSteps := 2000000 }) (implicitDefEqProofs := false) (disch := first | omega | assumption | (simp only []; done) | fail) only [vop_move, vcallee_move, foot_move, vop_assign, vcallee_assign, vop_binOp, vcallee_binOp, foot_binOp, vop_slice, vcallee_slice, vop_builtin, vcallee_builtin, bin2_tmp, strip_pv, strip_own, optV_none, ev_tmp, put_some, at_mk, fits_some, ↓look_cons, ↓vlook_t, ↓vlook_f, guard_none, ↓vrun_nil, ↓code_region, ↓code_seq, ↓code_ret, ↓onNormal_normal, ↓onNormal_ret, strip_ownc, res_one, vres_tmp, blk_zero, blk_succ, set_zero, bin_int, int_add, cp2_co, cp2_cc, slice_ownc, slice_ownc_lo, vslc_some, bi_copy, evG_eq, ↓vrun_cons, ↓run1_some, ↓runG_true, ↓run2_none, ↓run3_some, ↓keep_ret, vfinK_some, at_hp, List.map_nil, vsrc, vcopyC, srcL, dstC, List.getElem?_cons_zero, List.getElem?_cons_succ, List.map_cons, List.map_nil, List.nil_append, List.drop_zero, Option.map_some, Option.map_none, ↓reduceIte, Nat.reduceLT, Nat.reduceBEq, Int.reduceLT, Int.reduceBEq, Int.toNat_natCast, Nat.zero_add, Nat.one_mul, true_and, and_self, Bool.true_and, Bool.and_self, beq_self_eq_true, Nat.le_refl, ↓vsp_nil, ↓vsp_cons, ↓vspK_eq, vspC_true, vspR_eq, pick_nil, pick_cons, pickO_some, creas_nil, agree_nil, agree_cons, agree1_some, sameAt_nil, Try.velem26, wrap_i64_in, dec_t, hcl, hc1, Int.natCast_one, ei, hmin, hmin2, hof, hle, List.length_drop, hup, hin, hl2, hof2, ht1]
      exact ⟨by simp, .inr ⟨0, .inr ⟨cap, by omega, rfl⟩, by simp, rfl, cells_nums _ _ _⟩⟩
    · have hr1 : (cap : Int) < (l.length : Int) + 1 := by omega
      have hne : ¬ (i : Int) = l.length := by omega
      have ei : ((i : Int) + 1).toNat = i + 1 := by omega
      have eL : ((l.length : Int) + 1 - i).toNat = l.length + 1 - i := by omega
      have eS : i + (l.length + 1 - i) = l.length + 1 := by omega
      have hb : (l.length + 1) * 16 ≤ 140737488355328 := by omega
      have hcz : cap < l.length + 1 := by omega
      have hl0 : (0 : Int) < (l.length : Int) + 1 - i := by omega
      have hlz : (l.length : Int) + 1 - i ≤ 1000000000 := by omega
      have hoi : i * 2 ≤ l.length * 2 := by omega
      have hic : i ≤ cap := by omega
      have hg1 := ins_g1P l i (l.length + 1 - i)
      have hg1b := ins_g1bP l i (l.length + 1 - i)
      have hg2 := ins_g2P l x i hlt
      have hg3 := ins_g3P l x i hlt
      have hmin : min 1 (l.length + 1 - i) = 1 := by omega
      have hmin2 : min (l.length - i) (l.length + 1 - (i + 1)) = l.length - i := by omega
      have hl1 : (cells encP (l.take i ++ List.replicate (l.length + 1 - i) (⟨0, 0⟩ : Pl))).length = (l.length + 1) * 2 := by rw [cells_len, List.length_append, List.length_take, List.length_replicate]; show _ * 2 = _; omega
      have hl2 : (cells encP (l.take i ++ x :: List.replicate (l.length - i) (⟨0, 0⟩ : Pl))).length = (l.length + 1) * 2 := by rw [cells_len, List.length_append, List.length_take, List.length_cons, List.length_replicate]; show _ * 2 = _; omega
      have ht1 : (cells encP [x]).take 2 = cells encP [x] := cells_all encP [x] _ rfl
      have hf1 : i * 2 + (l.length + 1 - i) * 2 ≤ (l.length + 1) * 2 := by omega
      have hf2 : (i + 1) * 2 ≤ (l.length + 1) * 2 := by omega
      have hle : (l.length - i) * 2 ≤ l.length * 2 - i * 2 := by omega
      refine vcalls_keep (fn := Try.f49) Try.func49 rfl (by kernel_rfl) (by simp [Try.f49]) ?_
      simp (config := { maxSteps := 2000000 }) (implicitDefEqProofs := false) (disch := first | omega | assumption | (simp only []; done) | fail) only [vop_move, vcallee_move, vop_assign, vcallee_assign, vop_binOp, vcallee_binOp, vop_slice, vcallee_slice, vop_builtin, vcallee_builtin, bin2_tmp, bin2_int, strip_pv, strip_own, optV_none, ev_tmp, ev_const, ofConst_int, ofConst_slice, put_some, at_mk, fits_some, ↓look_cons, ↓vlook_t, ↓vlook_f, guard_none, ↓vrun_nil, ↓code_skip, ↓code_region, ↓code_draw, ↓code_seq, ↓onNormal_normal, strip_ownc, blk_zero, blk_succ, set_zero, set_succ, allOne_nil, allOne_cons, one_pv, bin_int, int_add, int_sub, int_eql, int_gtr, vlk_sl, len_own, bi_len, bi_append, ap2_cz, vapz1_some, bi_cap, cap_ownc, vck_sl, cp2_oo, len_ownc, slice_ownc, slice_own_lo, slice_ownc_hi, slice_ownc_lo, vslo_some, vslc0_some, vslc_some, bi_copy, enum_nil, enum_cons, evG_eq, ↓vrun_cons, ↓run1_some, ↓runG_true, ↓run2_none, ↓run3_some, ↓code_cond, ↓vtest_bool, ↓vbr_true, ↓vbr_false, at_hp, slice_own, List.map_nil, vsrc, vcopy, vapz2, List.toList_toArray, List.getElem?_cons_zero, List.length_cons, List.length_nil, List.map_cons, List.map_nil, List.cons_append, List.nil_append, List.drop_zero, Option.map_some, Option.map_none, ↓reduceIte, Nat.reduceAdd, Nat.reduceLT, Nat.reduceBEq, Int.reduceLT, Int.reduceAdd, Int.reduceBEq, Int.toNat_natCast, Nat.zero_add, Nat.one_mul, true_and, and_self, Bool.true_and, Bool.and_self, beq_self_eq_true, Nat.le_refl, Try.vkind3, Try.velem26, Try.vkind26, Try.vzero73, Try.bytes73, wrap_i64_in, dec_t, int_beq_f, Try.f49, hcl, hc1, hr1, Int.natCast_one, eL, eS, hb, hcz, hl0, hlz, hoi, hg1, hg2, hmin, hl1, ht1, hf1]
      refine vspine [0, 1, 2, 3, 4, 5, 6, 7] [⟨[], [], 8, [0, 1, 2, 3, 5, 6], []⟩] (by kernel_rfl) (by kernel_rfl) ?_
      simp (config := { maxSteps := 2000000 }) (implicitDefEqProofs := false) (disch := first | omega | assumption | (simp only []; done) | fail) only [vop_move, vcallee_move, foot_move, vop_assign, vcallee_assign, vop_binOp, vcallee_binOp, foot_binOp, vop_slice, vcallee_slice, vop_builtin, vcallee_builtin, bin2_tmp, strip_pv, strip_own, optV_none, ev_tmp, put_some, at_mk, fits_some, ↓look_cons, ↓vlook_t, ↓vlook_f, guard_none, ↓vrun_nil, ↓code_region, ↓code_seq, ↓code_ret, ↓onNormal_normal, ↓onNormal_ret, strip_ownc, res_one, vres_tmp, blk_zero, blk_succ, set_zero, set_succ, bin_int, int_add, cp2_oc, slice_ownc, slice_own_lo, slice_ownc_lo, vslo_some, vslc_some, bi_copy, evG_eq, ↓vrun_cons, ↓run1_some, ↓runG_true, ↓run2_none, ↓run3_some, ↓keep_ret, vfinK_some, at_hp, slice_own, List.map_nil, vcopyC, srcL, dstC, List.getElem?_cons_zero, List.getElem?_cons_succ, List.map_cons, List.map_nil, List.nil_append, Option.map_some, Option.map_none, ↓reduceIte, Nat.reduceLT, Nat.reduceBEq, Int.reduceLT, Int.reduceBEq, Int.toNat_natCast, Nat.zero_add, true_and, and_self, Bool.true_and, Bool.and_self, beq_self_eq_true, ↓vsp_nil, ↓vsp_cons, ↓vspK_eq, vspC_true, vspR_eq, pick_nil, pick_cons, pickO_some, creas_nil, agree_nil, agree_cons, agree1_some, sameAt_nil, Try.velem26, wrap_i64_in, dec_t, hcl, ei, hg3, hmin2, hl2, hf2, hle, List.length_drop]
      exact ⟨by simp, .inr ⟨2, .inl rfl, by simp, rfl, cells_nums _ _ _⟩⟩
end Go.Proofs.Ytjjjlkjhojdnnaa

namespace Go.Proofs.Ytjjjlkjhojdnnaa
open Go.V Go
set_option maxRecDepth 100000
set_option linter.unusedSimpArgs false

/-- Where a search by halves ends: how many stand before. -/
def lo {α : Type} (l : List α) (f : α → Bool) : Nat := (l.takeWhile f).length
/-- Those before come first. -/
def Fore {α : Type} (l : List α) (f : α → Bool) : Prop := ∀ i j : Nat, ∀ hi : i < l.length, ∀ hj : j < l.length, i < j → f l[j] = true → f l[i] = true
theorem lo_le {α : Type} (l : List α) (f : α → Bool) : lo l f ≤ l.length := (List.takeWhile_sublist _).length_le
theorem lo_eq {α : Type} (l : List α) (f : α → Bool) (i : Nat) (hi : i ≤ l.length) (h1 : ∀ k, ∀ hk : k < l.length, k < i → f l[k] = true) (h2 : ∀ hi : i < l.length, f l[i] = false) : lo l f = i := by
  unfold lo
  induction l generalizing i with
  | nil => simp at hi; subst hi; rfl
  | cons a r ih =>
    cases i with
    | zero =>
      have := h2 (by simp)
      simp only [List.getElem_cons_zero] at this
      rw [List.takeWhile_cons, this]; rfl
    | succ i =>
      have h0 := h1 0 (by simp) (by omega)
      simp only [List.getElem_cons_zero] at h0
      rw [List.takeWhile_cons, h0]
      simp only [if_true, List.length_cons]
      rw [ih i (by simpa using hi) (fun k hk hki => h1 (k + 1) (by simpa using hk) (by omega)) (fun hi => h2 (by simpa using hi))]
/-- How far a search by halves has come. -/
structure BS {α : Type} (l : List α) (f : α → Bool) where
  i : Nat
  j : Nat
  hij : i ≤ j
  hj : j ≤ l.length
  h1 : ∀ k, ∀ hk : k < l.length, k < i → f l[k] = true
  h2 : ∀ hj : j < l.length, f l[j] = false
def BS.start {α : Type} (l : List α) (f : α → Bool) : BS l f := ⟨0, l.length, Nat.zero_le _, Nat.le_refl _, fun k hk h => by omega, fun h => by omega⟩
def BS.up {α : Type} {l : List α} {f : α → Bool} (s : BS l f) (hf : Fore l f) (h : Nat) (h1 : s.i ≤ h) (h2 : h < s.j) (hx : f (l[h]'(Nat.lt_of_lt_of_le h2 s.hj)) = true) : BS l f :=
  ⟨h + 1, s.j, h2, s.hj, fun k hk hki => by
    rcases Nat.lt_or_ge k h with hlt | hge
    · exact hf k h hk (Nat.lt_of_lt_of_le h2 s.hj) hlt hx
    · obtain rfl : k = h := by omega
      exact hx, s.h2⟩
def BS.down {α : Type} {l : List α} {f : α → Bool} (s : BS l f) (h : Nat) (h1 : s.i ≤ h) (h2 : h < s.j) (hx : f (l[h]'(Nat.lt_of_lt_of_le h2 s.hj)) = false) : BS l f :=
  ⟨s.i, h, h1, Nat.le_of_lt (Nat.lt_of_lt_of_le h2 s.hj), s.h1, fun _ => hx⟩
theorem BS.fin {α : Type} {l : List α} {f : α → Bool} (s : BS l f) (h : ¬ s.i < s.j) : lo l f = s.i := by
  have e : s.i = s.j := by have := s.hij; omega
  exact lo_eq l f s.i (by have := s.hj; omega) s.h1 (fun hi => by
    have := s.h2 (e ▸ hi)
    simpa only [e] using this)
theorem half (i j : Nat) (h : j ≤ 1000000) (hij : i ≤ j) : IntKind.i64.wrap ((IntKind.u64.wrap ((i : Int) + j)).fdiv (2 ^ min 1 IntKind.u64.bits)) = ((i + j) / 2 : Nat) := by
  have e0 : ((2 : Int) ^ min 1 IntKind.u64.bits) = 2 := by decide
  rw [e0]
  have e1 : IntKind.u64.wrap ((i : Int) + j) = (i : Int) + j := by
    simp [IntKind.wrap, IntKind.signed, IntKind.bits]; omega
  rw [e1, Int.fdiv_eq_ediv_of_nonneg _ (by omega), IntKind.wrap_i64]
  omega

set_option maxHeartbeats 1000000 in
theorem bsearchFP_v (l : List Pl) (hl : l.length ≤ 1000000) (y : Int) (g : FuncId) (cmp : Pl → Int) (hf : ∀ x ∈ l, VCalls Try.prog g [.agg [.int .i64 x.pg, .int .i64 x.ad], .int .i64 y] [] (Ret (.int .i64 (cmp x)))) (hF : Fore l (fun x => decide (cmp x < 0))) :
    VCalls Try.prog 66 [.pv (.sl (fz encP l)), .int .i64 y, .fn (.func g) [] []] [] (Ret (.tup [.int .i64 (lo l (fun x => decide (cmp x < 0))), .bool ((l[lo l (fun x => decide (cmp x < 0))]?.map fun x => cmp x == 0).getD false)])) := by
  refine vcalls_drop (fn := Try.f66) Try.func66 rfl (by kernel_rfl) (by simp [Try.f66]) ?_
  simp (config := { maxSteps := 2000000 }) (implicitDefEqProofs := false) (disch := first | omega | assumption | (simp only []; done) | fail) only [vop_move, vcallee_move, vop_assign, vcallee_assign, vop_builtin, vcallee_builtin, strip_pv, optV_none, ev_tmp, ev_const, ofConst_int, ofConst_bool, put_some, at_mk, fits_some, ↓look_cons, ↓vlook_t, ↓vlook_f, guard_none, ↓vrun_nil, ↓code_region, ↓code_seq, ↓code_block, ↓code_loop, ↓onNormal_normal, len_sl, vlk_sl, bi_len, enum_nil, enum_cons, evG_eq, ↓vrun_cons, ↓run1_some, ↓runG_true, ↓run2_none, ↓run3_some, at_hp, List.map_nil, List.toList_toArray, List.length_nil, List.map_cons, List.map_nil, Option.map_some, Nat.reduceAdd, Nat.reduceLT, Nat.reduceBEq, Int.reduceLT, Int.reduceAdd, Int.reduceBEq, Nat.zero_add, true_and, Bool.true_and, beq_self_eq_true, fz_len, Try.vkind26, dec_t, Try.f66]
  refine vloop (fun s : BS l (fun x => decide (cmp x < 0)) => ⟨49, 0, [(10, .int .i64 s.j), (9, .int .i64 s.i), (8, .int .i64 l.length), (0, .pv (.sl (fz encP l))), (1, .int .i64 y), (2, .fn (.func g) [] [])], []⟩) (fun s => s.j - s.i) (BS.start l _) (by refine ⟨rfl, rfl, by simp, ?_, ?_, .inl rfl⟩ <;> (repeat' apply And.intro) <;> first | rfl | trivial) ?_
  intro s
  have hij := s.hij
  have hj := s.hj
  have hh := half s.i s.j (by omega) hij
  simp (config := { maxSteps := 2000000 }) (implicitDefEqProofs := false) (disch := first | omega | assumption | (simp only []; done) | fail) only [vop_move, vcallee_move, vop_binOp, vcallee_binOp, bin2_tmp, strip_pv, optV_none, ev_tmp, put_some, at_mk, fits_some, ↓look_cons, ↓vlook_t, ↓vlook_f, guard_none, ↓vrun_nil, ↓code_region, ↓code_seq, ↓onNormal_normal, bin_int, int_lss, evG_eq, ↓vrun_cons, ↓run1_some, ↓runG_true, ↓run2_none, ↓run3_some, ↓code_cond, ↓vtest_bool, at_hp, Option.map_some, Nat.reduceLT, Nat.reduceBEq, Int.reduceLT, Int.reduceBEq, true_and, Bool.true_and, beq_self_eq_true, dec_t]
  refine vbr_split (fun hc1 => ?_) (fun hc1 => ?_) <;> simp only [decide_eq_true_eq, decide_eq_false_iff_not, Bool.or_eq_true, Bool.and_eq_true, Bool.or_eq_false_iff, Bool.and_eq_false_imp, Bool.not_eq_true', Bool.not_eq_false', beq_iff_eq, beq_eq_false_iff_ne, bne_iff_ne, bne_eq_false_iff_eq, ne_eq] at hc1
  · have hlt : (s.i + s.j) / 2 < l.length := by omega
    have hg : (fz encP l)[(s.i + s.j) / 2]? = some [.lit (.int .i64 l[(s.i + s.j) / 2].pg), .lit (.int .i64 l[(s.i + s.j) / 2].ad)] := fz_at encP l _ hlt
    have hm := hf l[(s.i + s.j) / 2] (List.getElem_mem hlt)
    simp (config := { maxSteps := 2000000 }) (implicitDefEqProofs := false) (disch := first | omega | assumption | (simp only [List.length_cons, List.length_nil, Nat.zero_add, Nat.reduceAdd]; done) | fail) only [vop_move, vcallee_move, vop_assign, vcallee_assign, vop_load, vcallee_load, vop_binOp, vcallee_binOp, vop_convert, vcallee_convert, vop_indexAddr, vcallee_indexAddr, vcallee_value, vcal_fn, conv_pv, bin2_tmp, bin2_int, strip_pv, strip_ip, strip_agg, strip_fn, optV_none, ev_tmp, ev_const, ofConst_int, put_some, at_mk, fits_some, ↓look_cons, ↓vlook_t, ↓vlook_f, guard_none, ↓vrun_nil, ↓code_skip, ↓code_region, ↓code_seq, ↓code_block, ↓onNormal_normal, load_ip, vldp_agg, iaddr_sl, vias_some, bin_int, int_add, int_shr, conv_int, vci_int, evG_eq, ↓vrun_cons, ↓run1_some, ↓runG_true, ↓run2_none, ↓run2_some, ↓run3_some, at_hp, List.map_nil, List.length_cons, List.length_nil, List.map_cons, List.map_nil, List.nil_append, List.append_nil, List.take_succ_cons, List.take_nil, Option.map_some, ↓reduceIte, Nat.reduceAdd, Nat.reduceLT, Nat.reduceBEq, Int.reduceToNat, Int.reduceLT, Int.reduceAdd, Int.reduceBEq, Int.toNat_natCast, Nat.zero_add, true_and, Bool.true_and, beq_self_eq_true, Nat.le_refl, Try.vkind3, Try.velem26, Try.vt73, Try.vkind99, wrap_i64_in, dec_t, hh, hg]
    refine vc_pure hm rfl ?_
    simp (config := { maxSteps := 2000000 }) (implicitDefEqProofs := false) (disch := first | omega | assumption | (simp only []; done) | fail) only [vop_binOp, vcallee_binOp, bin2_int, strip_pv, optV_none, ev_tmp, ev_const, ofConst_int, put_some, at_mk, fits_some, ↓look_cons, ↓vlook_t, guard_none, ↓vrun_nil, ↓onNormal_normal, bin_int, int_lss, evG_eq, ↓vrun_cons, ↓run1_some, ↓runG_true, ↓run2_none, ↓run3_some, ↓runK_eq, ↓code_cond, ↓vtest_bool, at_hp, Option.map_some, Nat.reduceLT, Int.reduceLT, true_and, Bool.true_and, beq_self_eq_true, dec_t]
    refine vbr_split (fun hx => ?_) (fun hx => ?_) <;> simp only [decide_eq_true_eq, decide_eq_false_iff_not, Bool.or_eq_true, Bool.and_eq_true, Bool.or_eq_false_iff, Bool.and_eq_false_imp, Bool.not_eq_true', Bool.not_eq_false', beq_iff_eq, beq_eq_false_iff_ne, bne_iff_ne, bne_eq_false_iff_eq, ne_eq] at hx
    · simp (config := { maxSteps := 2000000 }) (implicitDefEqProofs := false) (disch := first | omega | assumption | (simp only []; done) | fail) only [vop_move, vcallee_move, vop_assign, vcallee_assign, vop_binOp, vcallee_binOp, bin2_int, strip_pv, optV_none, ev_tmp, ev_const, ofConst_int, put_some, at_mk, fits_some, ↓look_cons, ↓vlook_t, ↓vlook_f, guard_none, ↓vrun_nil, ↓code_region, ↓onNormal_normal, ↓onBlock_normal, bin_int, int_add, evG_eq, ↓vrun_cons, ↓run1_some, ↓runG_true, ↓run2_none, ↓run3_some, at_hp, Option.map_some, Nat.reduceLT, Nat.reduceBEq, Int.reduceLT, Int.reduceBEq, true_and, Bool.true_and, beq_self_eq_true, wrap_i64_in, dec_t]
      exact ⟨s.up hF _ (by omega) (by omega) (decide_eq_true hx), by show s.j - ((s.i + s.j) / 2 + 1) < s.j - s.i; omega, (by refine ⟨rfl, rfl, by simp, ?_, ?_, .inl rfl⟩ <;> (repeat' apply And.intro) <;> first | rfl | trivial)⟩
    · simp (config := { maxSteps := 2000000 }) (implicitDefEqProofs := false) (disch := first | omega | assumption | (simp only []; done) | fail) only [vop_move, vcallee_move, vop_assign, vcallee_assign, strip_pv, optV_none, ev_tmp, put_some, at_mk, fits_some, ↓look_cons, ↓vlook_t, ↓vlook_f, guard_none, ↓vrun_nil, ↓code_region, ↓onNormal_normal, ↓onBlock_normal, evG_eq, ↓vrun_cons, ↓run1_some, ↓runG_true, ↓run2_none, ↓run3_some, at_hp, Nat.reduceLT, Nat.reduceBEq, Int.reduceLT, Int.reduceBEq, true_and, Bool.true_and, beq_self_eq_true, dec_t, dec_f]
      exact ⟨s.down ((s.i + s.j) / 2) (by omega) (by omega) (decide_eq_false hx), by show (s.i + s.j) / 2 - s.i < s.j - s.i; omega, (by refine ⟨rfl, rfl, by simp, ?_, ?_, .inl rfl⟩ <;> (repeat' apply And.intro) <;> first | rfl | trivial)⟩
  · have hlo := s.fin (by omega)
    rw [hlo]
    by_cases hin : s.i < l.length
    · have hg : (fz encP l)[s.i]? = some [.lit (.int .i64 l[s.i].pg), .lit (.int .i64 l[s.i].ad)] := fz_at encP l _ hin
      have hm := hf l[s.i] (List.getElem_mem hin)
      have hin' : (s.i : Int) < l.length := by omega
      have e : (l[s.i]?.map fun x => cmp x == 0).getD false = (cmp l[s.i] == 0) := by rw [List.getElem?_eq_getElem hin]; rfl
      rw [e]
      simp (config := { maxSteps := 2000000 }) (implicitDefEqProofs := false) (disch := first | omega | assumption | (simp only [List.length_cons, List.length_nil, Nat.zero_add, Nat.reduceAdd]; done) | fail) only [vop_move, vcallee_move, vop_load, vcallee_load, vop_binOp, vcallee_binOp, vop_indexAddr, vcallee_indexAddr, vcallee_value, vcal_fn, bin2_tmp, strip_pv, strip_fn, strip_opt, vstr_true, optV_none, optV_some, ev_tmp, put_some, at_mk, fits_some, ↓look_cons, ↓vlook_t, ↓vlook_f, guard_none, guard_some, vgof_bool, ↓code_region, ↓code_seq, ↓code_exit, ↓onNormal_normal, ↓onNormal_exit, ↓onBlock_exit, load_ip, vldp_agg, iaddr_sl, vias_some, bin_int, int_lss, evG_eq, ↓vrun_cons, ↓run1_some, ↓runG_true, ↓run2_none, ↓run2_some, ↓run3_some, at_hp, List.map_nil, List.getElem?_cons_zero, List.getElem?_cons_succ, List.length_cons, List.length_nil, List.map_cons, List.map_nil, List.nil_append, List.append_nil, List.take_succ_cons, List.take_nil, Option.map_some, Option.bind_some, ↓reduceIte, Nat.reduceAdd, Nat.reduceLT, Nat.reduceBEq, Int.reduceLT, Int.reduceAdd, Int.reduceBEq, Int.toNat_natCast, Nat.zero_add, true_and, or_true, Bool.not_true, Bool.or_true, Bool.true_and, beq_self_eq_true, Nat.le_refl, Try.velem26, Try.vt73, dec_t, dec_f, hin', hg]
      refine vc_pure (hm) rfl ?_
      simp (config := { maxSteps := 2000000 }) (implicitDefEqProofs := false) (disch := first | omega | assumption | (simp only []; done) | fail) only [vop_assign, vcallee_assign, vop_pick, vcallee_pick, vop_binOp, vcallee_binOp, bin2_int, vpick_bool, strip_pv, strip_opt, vstr_true, optV_none, optV_some, pickV_bool, ev_tmp, ev_const, ofConst_int, ofConst_bool, put_some, at_mk, fits_some, ↓look_cons, ↓vlook_t, ↓vlook_f, guard_none, guard_some, vgof_bool, ↓vrun_nil, ↓code_ret, ↓onNormal_normal, frz_tup, frzT_pv, allSome_nil, allSome_cons, frzHeap_zero, res_two, vres_tmp, bin_int, int_eql, evG_eq, ↓vrun_cons, ↓run1_some, ↓runG_true, ↓run2_none, ↓run3_some, ↓runK_eq, ↓vpost_ret, vfin_some, vfin2_some, at_hp, List.map_nil, List.getElem?_cons_zero, List.getElem?_cons_succ, List.map_cons, List.map_nil, Option.map_some, Option.bind_some, Nat.reduceLT, Nat.reduceBEq, Int.reduceLT, Int.reduceBEq, and_self, or_true, Bool.not_true, Bool.or_true, Bool.and_self, cond_true, beq_self_eq_true, DV.wk.go, dec_t, Ret, DV.nums, DV.nums.go]
    · have hin' : ¬ (s.i : Int) < l.length := by omega
      have e : (l[s.i]?.map fun x => cmp x == 0).getD false = false := by rw [List.getElem?_eq_none (by omega)]; rfl
      have hg : (fz encP l)[s.i]? = none := by rw [List.getElem?_eq_none_iff, fz_len]; omega
      rw [e]
      simp (config := { maxSteps := 2000000 }) (implicitDefEqProofs := false) (disch := first | omega | assumption | (simp only []; done) | fail) only [vop_move, vcallee_move, vop_assign, vcallee_assign, vop_pick, vcallee_pick, vop_binOp, vcallee_binOp, bin2_tmp, vpick_bool, strip_pv, strip_tup, optV_none, ev_tmp, ev_const, ofConst_bool, put_some, at_mk, fits_some, ↓look_cons, ↓vlook_t, ↓vlook_f, guard_none, guard_some, vgof_bool, ↓vrun_nil, ↓code_region, ↓code_seq, ↓code_exit, ↓code_ret, ↓onNormal_normal, ↓onNormal_exit, ↓onBlock_exit, frz_tup, frzT_pv, allSome_nil, allSome_cons, frzHeap_zero, res_two, vres_tmp, bin_int, int_lss, evG_eq, ↓vrun_cons, ↓run1_some, ↓runG_true, ↓runG_false, ↓run2_none, ↓run3_some, ↓vpost_ret, vfin_some, vfin2_some, at_hp, pickV_f, List.map_nil, List.getElem?_cons_zero, List.getElem?_cons_succ, List.map_cons, List.map_nil, Option.map_some, Option.bind_some, ↓reduceIte, Nat.reduceLT, Nat.reduceBEq, Int.reduceLT, Int.reduceBEq, decide_false, and_self, Bool.not_false, Bool.and_self, b_beq_t, beq_self_eq_true, DV.wk.go, dec_t, dec_f, Ret, DV.nums, DV.nums.go, hin']
      try simp only []

theorem cnan_v (x : Int) : VCalls Try.prog 85 [.int .i64 x] [] (Ret (.bool false)) := by
  refine vcalls_drop (fn := Try.f85) Try.func85 rfl (by kernel_rfl) (by simp [Try.f85]) ?_
  simp (config := { maxSteps := 2000000 }) (implicitDefEqProofs := false) (disch := first | omega | assumption | (simp only []; done) | fail) only [vop_move, vcallee_move, vop_assign, vcallee_assign, vop_binOp, vcallee_binOp, bin2_tmp, strip_pv, optV_none, ev_tmp, ev_const, ofConst_bool, put_some, at_mk, fits_some, ↓look_cons, ↓vlook_t, ↓vlook_f, guard_none, ↓vrun_nil, ↓code_region, ↓code_seq, ↓code_ret, ↓onNormal_normal, frz_pv, frzHeap_zero, res_one, vres_tmp, bin_int, int_neq, enum_nil, enum_cons, evG_eq, ↓vrun_cons, ↓run1_some, ↓runG_true, ↓run2_none, ↓run3_some, ↓vpost_ret, vfin_some, vfin2_some, at_hp, List.toList_toArray, List.length_nil, Option.map_some, Nat.reduceLT, Nat.reduceBEq, Int.reduceLT, Int.reduceBEq, Nat.zero_add, and_self, Bool.and_self, beq_self_eq_true, dec_t, int_bne_f, Ret, DV.nums, Try.f85]
theorem snan_v (x : Int) : VCalls Try.prog 69 [.int .i64 x] [] (Ret (.bool false)) := by
  refine vcalls_drop (fn := Try.f69) Try.func69 rfl (by kernel_rfl) (by simp [Try.f69]) ?_
  simp (config := { maxSteps := 2000000 }) (implicitDefEqProofs := false) (disch := first | omega | assumption | (simp only []; done) | fail) only [vop_move, vcallee_move, vop_assign, vcallee_assign, vop_binOp, vcallee_binOp, bin2_tmp, strip_pv, optV_none, ev_tmp, ev_const, ofConst_bool, put_some, at_mk, fits_some, ↓look_cons, ↓vlook_t, ↓vlook_f, guard_none, ↓vrun_nil, ↓code_region, ↓code_seq, ↓code_ret, ↓onNormal_normal, frz_pv, frzHeap_zero, res_one, vres_tmp, bin_int, int_neq, enum_nil, enum_cons, evG_eq, ↓vrun_cons, ↓run1_some, ↓runG_true, ↓run2_none, ↓run3_some, ↓vpost_ret, vfin_some, vfin2_some, at_hp, List.toList_toArray, List.length_nil, Option.map_some, Nat.reduceLT, Nat.reduceBEq, Int.reduceLT, Int.reduceBEq, Nat.zero_add, and_self, Bool.and_self, beq_self_eq_true, dec_t, int_bne_f, Ret, DV.nums, Try.f69]
theorem less_v (x y : Int) : VCalls Try.prog 68 [.int .i64 x, .int .i64 y] [] (Ret (.bool (decide (x < y)))) := by
  refine vcalls_drop (fn := Try.f68) Try.func68 rfl (by kernel_rfl) (by simp [Try.f68]) ?_
  simp (config := { maxSteps := 2000000 }) (implicitDefEqProofs := false) (disch := first | omega | assumption | (simp only []; done) | fail) only [vop_move, vcallee_move, vop_assign, vcallee_assign, vcallee_value, vcal_fn, strip_pv, strip_fn, optV_none, ev_tmp, ev_const, ev_func, ofConst_bool, put_some, at_mk, fits_some, ↓look_cons, ↓vlook_t, ↓vlook_f, guard_none, ↓vrun_nil, ↓code_region, ↓code_seq, ↓onNormal_normal, enum_nil, enum_cons, evG_eq, ↓vrun_cons, ↓run1_some, ↓runG_true, ↓run2_none, ↓run2_some, ↓run3_some, at_hp, List.map_nil, List.toList_toArray, List.length_nil, List.map_cons, List.map_nil, List.nil_append, List.append_nil, Nat.reduceAdd, Nat.reduceLT, Nat.reduceBEq, Int.reduceLT, Int.reduceAdd, Int.reduceBEq, Nat.zero_add, true_and, Bool.true_and, beq_self_eq_true, dec_t, Try.f68]
  refine vc_pure (cnan_v x) rfl ?_
  simp (config := { maxSteps := 2000000 }) (implicitDefEqProofs := false) (disch := first | omega | assumption | (simp only []; done) | fail) only [vop_move, vcallee_move, vop_assign, vcallee_assign, vop_pick, vcallee_pick, vop_binOp, vcallee_binOp, bin2_tmp, vpick_bool, strip_pv, strip_tup, strip_opt, vstr_true, optV_none, optV_some, pickV_bool, ev_tmp, ev_const, ofConst_bool, put_some, at_mk, fits_some, ↓look_cons, ↓vlook_t, ↓vlook_f, guard_none, guard_some, vgof_bool, ↓vrun_nil, ↓code_ret, ↓onNormal_normal, frz_pv, frzHeap_zero, res_one, vres_tmp, bin_int, int_lss, evG_eq, ↓vrun_cons, ↓run1_some, ↓runG_true, ↓runG_false, ↓run2_none, ↓run3_some, ↓runK_eq, ↓vpost_ret, vfin_some, vfin2_some, at_hp, pickV_f, List.getElem?_cons_zero, List.getElem?_cons_succ, Option.map_some, Option.bind_some, Nat.reduceLT, Nat.reduceBEq, Int.reduceLT, Int.reduceBEq, and_self, or_true, Bool.not_true, Bool.not_false, Bool.or_true, Bool.and_self, b_beq_t, cond_false, beq_self_eq_true, dec_t, Ret, DV.nums]
  try simp only []
set_option maxHeartbeats 1000000 in
theorem bsearchI_v (l : List Int) (hl : l.length ≤ 1000000) (y : Int) (hF : Fore l (fun x => decide (x < y))) :
    VCalls Try.prog 45 [.pv (.sl (fz encI l)), .int .i64 y] [] (Ret (.tup [.int .i64 (lo l (fun x => decide (x < y))), .bool ((l[lo l (fun x => decide (x < y))]?.map fun x => x == y).getD false)])) := by
  refine vcalls_drop (fn := Try.f45) Try.func45 rfl (by kernel_rfl) (by simp [Try.f45]) ?_
  simp (config := { maxSteps := 2000000 }) (implicitDefEqProofs := false) (disch := first | omega | assumption | (simp only []; done) | fail) only [vop_move, vcallee_move, vop_assign, vcallee_assign, vop_builtin, vcallee_builtin, strip_pv, optV_none, ev_tmp, ev_const, ofConst_int, ofConst_bool, put_some, at_mk, fits_some, ↓look_cons, ↓vlook_t, ↓vlook_f, guard_none, ↓vrun_nil, ↓code_region, ↓code_seq, ↓code_block, ↓code_loop, ↓onNormal_normal, len_sl, vlk_sl, bi_len, enum_nil, enum_cons, evG_eq, ↓vrun_cons, ↓run1_some, ↓runG_true, ↓run2_none, ↓run3_some, at_hp, List.map_nil, List.toList_toArray, List.length_nil, List.map_cons, List.map_nil, Option.map_some, Nat.reduceAdd, Nat.reduceLT, Nat.reduceBEq, Int.reduceLT, Int.reduceAdd, Int.reduceBEq, Nat.zero_add, true_and, Bool.true_and, beq_self_eq_true, fz_len, Try.vkind27, dec_t, Try.f45]
  refine vloop (fun s : BS l (fun x => decide (x < y)) => ⟨54, 0, [(8, .int .i64 s.j), (7, .int .i64 s.i), (6, .int .i64 l.length), (0, .pv (.sl (fz encI l))), (1, .int .i64 y)], []⟩) (fun s => s.j - s.i) (BS.start l _) (by refine ⟨rfl, rfl, by simp, ?_, ?_, .inl rfl⟩ <;> (repeat' apply And.intro) <;> first | rfl | trivial) ?_
  intro s
  have hij := s.hij
  have hj := s.hj
  have hh := half s.i s.j (by omega) hij
  simp (config := { maxSteps := 2000000 }) (implicitDefEqProofs := false) (disch := first | omega | assumption | (simp only []; done) | fail) only [vop_move, vcallee_move, vop_binOp, vcallee_binOp, bin2_tmp, strip_pv, optV_none, ev_tmp, put_some, at_mk, fits_some, ↓look_cons, ↓vlook_t, ↓vlook_f, guard_none, ↓vrun_nil, ↓code_region, ↓code_seq, ↓onNormal_normal, bin_int, int_lss, evG_eq, ↓vrun_cons, ↓run1_some, ↓runG_true, ↓run2_none, ↓run3_some, ↓code_cond, ↓vtest_bool, at_hp, Option.map_some, Nat.reduceLT, Nat.reduceBEq, Int.reduceLT, Int.reduceBEq, true_and, Bool.true_and, beq_self_eq_true, dec_t]
  refine vbr_split (fun hc1 => ?_) (fun hc1 => ?_) <;> simp only [decide_eq_true_eq, decide_eq_false_iff_not, Bool.or_eq_true, Bool.and_eq_true, Bool.or_eq_false_iff, Bool.and_eq_false_imp, Bool.not_eq_true', Bool.not_eq_false', beq_iff_eq, beq_eq_false_iff_ne, bne_iff_ne, bne_eq_false_iff_eq, ne_eq] at hc1
  · have hlt : (s.i + s.j) / 2 < l.length := by omega
    have hg : (fz encI l)[(s.i + s.j) / 2]? = some [.lit (.int .i64 l[(s.i + s.j) / 2])] := fz_at encI l _ hlt
    simp (config := { maxSteps := 2000000 }) (implicitDefEqProofs := false) (disch := first | omega | assumption | (simp only [List.length_cons, List.length_nil, Nat.zero_add]; done) | fail) only [vop_move, vcallee_move, vop_assign, vcallee_assign, vop_load, vcallee_load, vop_binOp, vcallee_binOp, vop_convert, vcallee_convert, vop_indexAddr, vcallee_indexAddr, vcallee_value, vcal_fn, conv_pv, bin2_tmp, bin2_int, strip_pv, strip_ip, strip_fn, optV_none, ev_tmp, ev_const, ev_func, ofConst_int, put_some, at_mk, fits_some, ↓look_cons, ↓vlook_t, ↓vlook_f, guard_none, ↓vrun_nil, ↓code_skip, ↓code_region, ↓code_seq, ↓code_block, ↓onNormal_normal, load_ip, vldp_one, iaddr_sl, vias_some, bin_int, int_add, int_shr, conv_int, vci_int, evG_eq, ↓vrun_cons, ↓run1_some, ↓runG_true, ↓run2_none, ↓run2_some, ↓run3_some, at_hp, List.map_nil, List.getElem?_cons_zero, List.map_cons, List.map_nil, List.nil_append, List.append_nil, Option.map_some, Nat.reduceLT, Nat.reduceBEq, Int.reduceToNat, Int.reduceLT, Int.reduceBEq, Int.toNat_natCast, true_and, Bool.true_and, beq_self_eq_true, Try.vt3, Try.vkind3, Try.velem27, Try.vkind99, wrap_i64_in, dec_t, hh, hg]
    refine vc_pure (less_v l[(s.i + s.j) / 2] y) rfl ?_
    simp (config := { maxSteps := 2000000 }) (implicitDefEqProofs := false) (disch := first | omega | assumption) only [optV_none, ev_tmp, put_some, at_mk, ↓look_cons, ↓vlook_t, ↓vrun_nil, ↓onNormal_normal, ↓runK_eq, ↓code_cond, ↓vtest_bool, beq_self_eq_true]
    refine vbr_split (fun hx => ?_) (fun hx => ?_) <;> simp only [decide_eq_true_eq, decide_eq_false_iff_not, Bool.or_eq_true, Bool.and_eq_true, Bool.or_eq_false_iff, Bool.and_eq_false_imp, Bool.not_eq_true', Bool.not_eq_false', beq_iff_eq, beq_eq_false_iff_ne, bne_iff_ne, bne_eq_false_iff_eq, ne_eq] at hx
    · simp (config := { maxSteps := 2000000 }) (implicitDefEqProofs := false) (disch := first | omega | assumption | (simp only []; done) | fail) only [vop_move, vcallee_move, vop_assign, vcallee_assign, vop_binOp, vcallee_binOp, bin2_int, strip_pv, optV_none, ev_tmp, ev_const, ofConst_int, put_some, at_mk, fits_some, ↓look_cons, ↓vlook_t, ↓vlook_f, guard_none, ↓vrun_nil, ↓code_region, ↓onNormal_normal, ↓onBlock_normal, bin_int, int_add, evG_eq, ↓vrun_cons, ↓run1_some, ↓runG_true, ↓run2_none, ↓run3_some, at_hp, Option.map_some, Nat.reduceLT, Nat.reduceBEq, Int.reduceLT, Int.reduceBEq, true_and, Bool.true_and, beq_self_eq_true, wrap_i64_in, dec_t]
      exact ⟨s.up hF _ (by omega) (by omega) (decide_eq_true hx), by show s.j - ((s.i + s.j) / 2 + 1) < s.j - s.i; omega, (by refine ⟨rfl, rfl, by simp, ?_, ?_, .inl rfl⟩ <;> (repeat' apply And.intro) <;> first | rfl | trivial)⟩
    · simp (config := { maxSteps := 2000000 }) (implicitDefEqProofs := false) (disch := first | omega | assumption | (simp only []; done) | fail) only [vop_move, vcallee_move, vop_assign, vcallee_assign, strip_pv, optV_none, ev_tmp, put_some, at_mk, fits_some, ↓look_cons, ↓vlook_t, ↓vlook_f, guard_none, ↓vrun_nil, ↓code_region, ↓onNormal_normal, ↓onBlock_normal, evG_eq, ↓vrun_cons, ↓run1_some, ↓runG_true, ↓run2_none, ↓run3_some, at_hp, Nat.reduceLT, Nat.reduceBEq, Int.reduceLT, Int.reduceBEq, true_and, Bool.true_and, beq_self_eq_true, dec_t, dec_f]
      exact ⟨s.down ((s.i + s.j) / 2) (by omega) (by omega) (decide_eq_false hx), by show (s.i + s.j) / 2 - s.i < s.j - s.i; omega, (by refine ⟨rfl, rfl, by simp, ?_, ?_, .inl rfl⟩ <;> (repeat' apply And.intro) <;> first | rfl | trivial)⟩
  · have hlo := s.fin (by omega)
    rw [hlo]
    by_cases hin : s.i < l.length
    · have hg : (fz encI l)[s.i]? = some [.lit (.int .i64 l[s.i])] := fz_at encI l _ hin
      have hin' : (s.i : Int) < l.length := by omega
      have e : (l[s.i]?.map fun x => x == y).getD false = (l[s.i] == y) := by rw [List.getElem?_eq_getElem hin]; rfl
      rw [e]
      by_cases he : l[s.i] = y
      · simp (config := { maxSteps := 2000000 }) (implicitDefEqProofs := false) (disch := first | omega | assumption | (simp only [List.length_cons, List.length_nil, Nat.zero_add]; done) | fail) only [vop_move, vcallee_move, vop_assign, vcallee_assign, vop_pick, vcallee_pick, vop_load, vcallee_load, vop_binOp, vcallee_binOp, vop_indexAddr, vcallee_indexAddr, bin2_tmp, vpick_bool, strip_pv, strip_tup, strip_opt, vstr_true, optV_none, optV_some, pickV_bool, ev_tmp, ev_const, ofConst_bool, put_some, at_mk, fits_some, ↓look_cons, ↓vlook_t, ↓vlook_f, guard_none, guard_some, vgof_bool, vgof_opt, vgof_skip, ↓vrun_nil, ↓code_region, ↓code_seq, ↓code_exit, ↓code_ret, ↓onNormal_normal, ↓onNormal_exit, ↓onBlock_exit, frz_tup, frzT_pv, allSome_nil, allSome_cons, frzHeap_zero, res_two, vres_tmp, load_ip, vldp_one, iaddr_sl, vias_some, bin_int, int_eql, int_lss, evG_eq, ↓vrun_cons, ↓run1_some, ↓runG_true, ↓runG_false, ↓run2_none, ↓run3_some, ↓vpost_ret, vfin_some, vfin2_some, at_hp, pickV_t, List.map_nil, List.getElem?_cons_zero, List.getElem?_cons_succ, List.map_cons, List.map_nil, Option.map_some, Option.bind_some, ↓reduceIte, Nat.reduceLT, Nat.reduceBEq, Int.reduceLT, Int.reduceBEq, Int.toNat_natCast, and_self, and_false, or_true, Bool.not_true, Bool.or_true, Bool.and_false, Bool.and_self, b_beq_f, cond_true, beq_self_eq_true, DV.wk.go, Try.vt3, Try.velem27, dec_t, dec_f, Ret, DV.nums, DV.nums.go, hin', hg, he]
      · simp (config := { maxSteps := 2000000 }) (implicitDefEqProofs := false) (disch := first | omega | assumption | (simp only [List.length_cons, List.length_nil, Nat.zero_add]; done) | fail) only [vop_move, vcallee_move, vop_load, vcallee_load, vop_binOp, vcallee_binOp, vop_indexAddr, vcallee_indexAddr, vcallee_value, vcal_fn, bin2_tmp, strip_pv, strip_fn, strip_opt, vstr_true, optV_none, optV_some, ev_tmp, ev_func, put_some, at_mk, fits_some, ↓look_cons, ↓vlook_t, ↓vlook_f, guard_none, guard_some, vgof_bool, vgof_opt, ↓code_region, ↓code_seq, ↓code_exit, ↓onNormal_normal, ↓onNormal_exit, ↓onBlock_exit, load_ip, vldp_one, iaddr_sl, vias_some, bin_int, int_eql, int_lss, evG_eq, ↓vrun_cons, ↓run1_some, ↓runG_true, ↓run2_none, ↓run2_some, ↓run3_some, at_hp, List.map_nil, List.getElem?_cons_zero, List.getElem?_cons_succ, List.map_cons, List.map_nil, List.nil_append, List.append_nil, Option.map_some, Option.bind_some, ↓reduceIte, Nat.reduceLT, Nat.reduceBEq, Int.reduceLT, Int.reduceBEq, Int.toNat_natCast, true_and, and_self, or_true, Bool.not_true, Bool.or_true, Bool.true_and, Bool.and_self, beq_self_eq_true, Try.vt3, Try.velem27, dec_t, dec_f, int_beq_f, hin', hg]
        refine vc_pure (snan_v _) rfl ?_
        simp (config := { maxSteps := 2000000 }) (implicitDefEqProofs := false) (disch := first | omega | assumption | (simp only []; done) | fail) only [vop_move, vcallee_move, vop_assign, vcallee_assign, vop_pick, vcallee_pick, vpick_bool, strip_pv, strip_tup, strip_opt, vstr_true, optV_none, optV_some, pickV_bool, ev_tmp, ev_const, ofConst_bool, put_some, at_mk, fits_some, ↓look_cons, ↓vlook_t, ↓vlook_f, guard_none, guard_some, vgof_bool, vgof_opt, ↓vrun_nil, ↓code_ret, ↓onNormal_normal, frz_tup, frzT_pv, allSome_nil, allSome_cons, frzHeap_zero, res_two, vres_tmp, evG_eq, ↓vrun_cons, ↓run1_some, ↓runG_true, ↓runG_false, ↓run2_none, ↓run3_some, ↓runK_eq, ↓vpost_ret, vfin_some, vfin2_some, at_hp, pickV_f, List.map_nil, List.getElem?_cons_zero, List.getElem?_cons_succ, List.map_cons, List.map_nil, Option.map_some, Option.bind_some, Nat.reduceLT, Nat.reduceBEq, Int.reduceLT, Int.reduceBEq, and_self, and_false, or_true, Bool.not_true, Bool.not_false, Bool.or_true, Bool.and_false, Bool.and_self, b_beq_t, cond_false, Bool.cond_self, beq_self_eq_true, DV.wk.go, dec_t, Ret, DV.nums, DV.nums.go]
        try simp only []
    · have hin' : ¬ (s.i : Int) < l.length := by omega
      have e : (l[s.i]?.map fun x => x == y).getD false = false := by rw [List.getElem?_eq_none (by omega)]; rfl
      have hg : (fz encI l)[s.i]? = none := by rw [List.getElem?_eq_none_iff, fz_len]; omega
      rw [e]
      simp (config := { maxSteps := 2000000 }) (implicitDefEqProofs := false) (disch := first | omega | assumption | (simp only []; done) | fail) only [vop_move, vcallee_move, vop_assign, vcallee_assign, vop_pick, vcallee_pick, vop_binOp, vcallee_binOp, bin2_tmp, vpick_bool, strip_pv, strip_tup, optV_none, ev_tmp, ev_const, ofConst_bool, put_some, at_mk, fits_some, ↓look_cons, ↓vlook_t, ↓vlook_f, guard_none, guard_some, vgof_bool, vgof_skip, ↓vrun_nil, ↓code_region, ↓code_seq, ↓code_exit, ↓code_ret, ↓onNormal_normal, ↓onNormal_exit, ↓onBlock_exit, frz_tup, frzT_pv, allSome_nil, allSome_cons, frzHeap_zero, res_two, vres_tmp, bin_int, int_lss, evG_eq, ↓vrun_cons, ↓run1_some, ↓runG_true, ↓runG_false, ↓run2_none, ↓run3_some, ↓vpost_ret, vfin_some, vfin2_some, at_hp, pickV_f, List.map_nil, List.getElem?_cons_zero, List.getElem?_cons_succ, List.map_cons, List.map_nil, Option.map_some, Option.bind_some, ↓reduceIte, Nat.reduceLT, Nat.reduceBEq, Int.reduceLT, Int.reduceBEq, decide_false, and_self, Bool.not_false, Bool.and_self, b_beq_t, beq_self_eq_true, DV.wk.go, dec_t, dec_f, Ret, DV.nums, DV.nums.go, hin']
      try simp only []
      try simp only []
end Go.Proofs.Ytjjjlkjhojdnnaa

namespace Go.Proofs.Ytjjjlkjhojdnnaa
open Go.V Go
set_option maxRecDepth 100000
set_option linter.unusedSimpArgs false

/-- A map of bad places. -/
structure Rm where
  pages : Int
  spares : Int
  places : List Pl
  bad : List Int
def Rm.d (r : Rm) : List DV := [.int .i64 r.pages, .int .i64 r.spares, .pv (.sl (fz encP r.places)), .pv (.sl (fz encI r.bad))]
def Rm.sm (r : Rm) : Prop := r.places.length ≤ 1000 ∧ r.bad.length ≤ 1000
def P0 : Pl := ⟨0, 0⟩
def Rm.headB (r : Rm) : Bool := decide (1 ≤ r.pages) && decide (r.pages ≤ 64) && decide (0 ≤ r.spares) && decide (r.spares ≤ 16) && decide (r.pages + r.spares ≤ 64)
def Rm.chkB (r : Rm) (i : Nat) : Bool := decide (0 ≤ r.bad.getD i 0) && decide (r.bad.getD i 0 < r.pages + r.spares) && (decide (i = 0) || decide (r.bad.getD (i - 1) 0 < r.bad.getD i 0))
def Rm.chkP (r : Rm) (i : Nat) : Bool :=
  decide (0 ≤ (r.places.getD i P0).pg) && decide ((r.places.getD i P0).pg < r.pages) && (decide (i = 0) || decide ((r.places.getD (i - 1) P0).pg < (r.places.getD i P0).pg)) &&
  decide ((r.places.getD i P0).pg ∈ r.bad) && decide (r.pages ≤ (r.places.getD i P0).ad) && decide ((r.places.getD i P0).ad < r.pages + r.spares) && !decide ((r.places.getD i P0).ad ∈ r.bad) &&
  !decide ((r.places.getD i P0).ad ∈ (r.places.take i).map (·.ad))
def Rm.own (r : Rm) (i : Nat) : Nat := ((r.bad.take i).filter fun x => decide (x < r.pages)).length
def Rm.okB (r : Rm) : Bool := r.headB && (List.range r.bad.length).all r.chkB && (List.range r.places.length).all r.chkP && (r.own r.bad.length == r.places.length)

/-- Those so far are right. -/
structure Okay (n : Nat) (c : Nat → Bool) where
  i : Nat
  hi : i ≤ n
  ok : ∀ k, k < i → c k = true
def Okay.start (n : Nat) (c : Nat → Bool) : Okay n c := ⟨0, Nat.zero_le _, fun k h => by omega⟩
def Okay.next {n : Nat} {c : Nat → Bool} (s : Okay n c) (h : s.i < n) (hc : c s.i = true) : Okay n c := ⟨s.i + 1, h, fun k hk => by
  rcases Nat.lt_or_ge k s.i with hlt | hge
  · exact s.ok k hlt
  · obtain rfl : k = s.i := by omega
    exact hc⟩
theorem Okay.all {n : Nat} {c : Nat → Bool} (s : Okay n c) (h : ¬ s.i < n) : (List.range n).all c = true := by
  rw [List.all_eq_true]
  intro k hk
  rw [List.mem_range] at hk
  exact s.ok k (by omega)
theorem all_not {n : Nat} {c : Nat → Bool} {i : Nat} (h : i < n) (hc : c i = false) : (List.range n).all c = false := by
  rw [List.all_eq_false]
  exact ⟨i, by rwa [List.mem_range], by rw [hc]; simp⟩

/-- Ascending: from one to the next. -/
theorem fore_of (l : List Int) (h : ∀ i, i < l.length → i = 0 ∨ l.getD (i - 1) 0 < l.getD i 0) : l.Pairwise (· < ·) := by
  rw [List.pairwise_iff_getElem]
  intro i j hi hj hij
  induction j with
  | zero => omega
  | succ j ih =>
    have h1 := h (j + 1) hj
    rw [List.getD_eq_getElem?_getD, List.getD_eq_getElem?_getD, List.getElem?_eq_getElem hj, List.getElem?_eq_getElem (show j + 1 - 1 < l.length by omega)] at h1
    have h2 : l[j] < l[j + 1] := by
      rcases h1 with h1 | h1
      · omega
      · exact h1
    rcases Nat.lt_or_ge i j with hlt | hge
    · have := ih (by omega) hlt; omega
    · obtain rfl : i = j := by omega
      exact h2
theorem asc_fore (l : List Int) (h : l.Pairwise (· < ·)) (y : Int) : Fore l (fun x => decide (x < y)) := fun i j hi hj hij hx => by
  have := List.pairwise_iff_getElem.mp h i j hi hj hij
  simp only [decide_eq_true_eq] at hx ⊢
  omega
theorem lo_before {α : Type} (l : List α) (f : α → Bool) (k : Nat) (hk : k < lo l f) (hl : k < l.length) : f l[k] = true := by
  induction l generalizing k with
  | nil => simp at hl
  | cons a r ih =>
    cases ha : f a with
    | false =>
      have e : lo (a :: r) f = 0 := by simp [lo, List.takeWhile_cons, ha]
      omega
    | true =>
      have e : lo (a :: r) f = lo r f + 1 := by simp [lo, List.takeWhile_cons, ha]
      cases k with
      | zero => exact ha
      | succ k => exact ih k (by omega) (by simpa using hl)
theorem lo_at {α : Type} (l : List α) (f : α → Bool) (h : lo l f < l.length) : f l[lo l f] = false := by
  induction l with
  | nil => simp at h
  | cons a r ih =>
    cases ha : f a with
    | false =>
      have e : lo (a :: r) f = 0 := by simp [lo, List.takeWhile_cons, ha]
      simp only [e, List.getElem_cons_zero]; exact ha
    | true =>
      have e : lo (a :: r) f = lo r f + 1 := by simp [lo, List.takeWhile_cons, ha]
      have h' : lo r f < r.length := by rw [e] at h; simpa using h
      have := ih h'
      simp only [e, List.getElem_cons_succ]; exact this
theorem found_mem (l : List Int) (h : l.Pairwise (· < ·)) (y : Int) : ((l[lo l (fun x => decide (x < y))]?.map fun x => x == y).getD false) = decide (y ∈ l) := by
  by_cases hm : y ∈ l
  · obtain ⟨k, hk, e⟩ := List.getElem_of_mem hm
    have hlo : lo l (fun x => decide (x < y)) = k := by
      refine lo_eq l _ k (by omega) (fun j hj hjk => ?_) (fun hk => ?_)
      · have := List.pairwise_iff_getElem.mp h j k hj hk hjk
        rw [decide_eq_true_eq]; omega
      · rw [decide_eq_false_iff_not]; omega
    rw [hlo, List.getElem?_eq_getElem hk, decide_eq_true hm]
    simp [e]
  · rw [decide_eq_false hm]
    cases hx : l[lo l (fun x => decide (x < y))]? with
    | none => rfl
    | some x =>
      have : x ∈ l := List.mem_of_getElem? hx
      have hne : ¬ x = y := fun e => hm (e ▸ this)
      simpa using hne
theorem bad_asc (r : Rm) (h : (List.range r.bad.length).all r.chkB = true) : r.bad.Pairwise (· < ·) := by
  refine fore_of _ fun i hi => ?_
  rw [List.all_eq_true] at h
  have := h i (by rwa [List.mem_range])
  simp only [Rm.chkB, Bool.and_eq_true, Bool.or_eq_true, decide_eq_true_eq] at this
  exact this.2

theorem bad_v (r : Rm) (hb : r.bad.length ≤ 1000) (ha : r.bad.Pairwise (· < ·)) (x : Int) : VCalls Try.prog 38 [.agg r.d, .int .i64 x] [] (Ret (.bool (decide (x ∈ r.bad)))) := by
  refine vcalls_drop (fn := Try.f38) Try.func38 rfl (by kernel_rfl) (by simp [Try.f38]) ?_
  have h := bsearchI_v r.bad (by omega) x (asc_fore r.bad ha x)
  rw [found_mem r.bad ha x] at h
  simp (config := { maxSteps := 2000000 }) (implicitDefEqProofs := false) (disch := first | omega | assumption | (simp only []; done) | fail) only [vop_move, vcallee_move, vop_assign, vcallee_assign, vop_box, vcallee_box, vop_load, vcallee_load, vop_fieldAddr, vcallee_fieldAddr, vcallee_value, vcal_fn, strip_pv, strip_ptr, strip_agg, strip_fn, optV_none, ev_tmp, ev_const, ev_func, ofConst_bool, put_some, at_mk, fits_some, ↓look_cons, ↓vlook_t, ↓vlook_f, guard_none, ↓vrun_nil, ↓code_region, ↓code_seq, ↓onNormal_normal, load_ptr, vld_one, blk_zero, box_eq, allOne_nil, allOne_cons, one_pv, faddr_ptr, vfap_some, enum_nil, enum_cons, evG_eq, ↓vrun_cons, ↓run1_some, ↓runG_true, ↓run2_none, ↓run2_some, ↓run3_some, at_hp, List.map_nil, dcells, List.toList_toArray, List.getElem?_cons_zero, List.getElem?_cons_succ, List.length_nil, List.map_cons, List.map_nil, List.nil_append, List.append_nil, Option.map_some, ↓reduceIte, reduceCtorEq, Nat.reduceAdd, Nat.reduceLT, Nat.reduceBEq, Int.reduceLT, Int.reduceAdd, Int.reduceBEq, Nat.zero_add, true_and, and_self, Bool.true_and, Bool.and_self, beq_self_eq_true, Try.vt27, Try.vfield29x3, dec_t, Try.f38, Rm.d]
  refine vc_pure h rfl ?_
  simp (config := { maxSteps := 2000000 }) (implicitDefEqProofs := false) (disch := first | omega | assumption | (simp only []; done) | fail) only [vop_move, vcallee_move, vop_assign, vcallee_assign, vop_extract, vcallee_extract, strip_pv, strip_tup, optV_none, ev_tmp, put_some, at_mk, fits_some, ↓look_cons, ↓vlook_t, ↓vlook_f, guard_none, ↓vrun_nil, ↓code_region, ↓code_seq, ↓code_ret, ↓onNormal_normal, frz_pv, frzHeap_zero, res_one, vres_tmp, ext_tup, evG_eq, ↓vrun_cons, ↓run1_some, ↓runG_true, ↓run2_none, ↓run3_some, ↓runK_eq, ↓vpost_ret, vfin_some, vfin2_some, at_hp, List.getElem?_cons_zero, List.getElem?_cons_succ, Option.map_some, Nat.reduceLT, Nat.reduceBEq, Int.reduceLT, Int.reduceBEq, and_self, Bool.and_self, beq_self_eq_true, dec_t, Ret, DV.nums]
end Go.Proofs.Ytjjjlkjhojdnnaa

namespace Go.Proofs.Ytjjjlkjhojdnnaa
open Go.V Go
set_option maxRecDepth 100000
set_option linter.unusedSimpArgs false

/-- Which addresses are used. -/
def usedL (l : List Int) : List Bool := (List.range 64).map fun s : Nat => decide ((s : Int) ∈ l)
theorem usedL_len (l : List Int) : (usedL l).length = 64 := by simp [usedL]
theorem usedL_get (l : List Int) (s : Nat) (h : s < 64) : (cells encB (usedL l))[s]? = some (.bool (decide ((s : Int) ∈ l))) := by
  rw [cellsB_get _ _ (by rw [usedL_len]; exact h), List.getD_eq_getElem?_getD, usedL, List.getElem?_map, List.getElem?_range h]; rfl
theorem usedL_set (l : List Int) (s : Nat) : (cells encB (usedL l)).set s (.pv (.lit (.bool true))) = cells encB (usedL (l ++ [(s : Int)])) := by
  rw [cellsB_set]
  congr 1
  apply List.ext_getElem
  · simp [usedL]
  · intro k h1 h2
    rw [List.getElem_set]
    simp only [usedL, List.getElem_map, List.getElem_range, List.mem_append, List.mem_singleton]
    by_cases e : s = k
    · subst e; simp
    · rw [if_neg e]
      apply decide_eq_decide.2
      have : ¬ (k : Int) = s := by omega
      simp [this]
theorem take_succ_map (l : List Pl) (i : Nat) (h : i < l.length) : (l.take (i + 1)).map (·.ad) = (l.take i).map (·.ad) ++ [(l.getD i P0).ad] := by
  rw [List.take_succ_eq_append_getElem h, List.map_append, List.getD_eq_getElem?_getD, List.getElem?_eq_getElem h]; rfl
theorem own_succ (r : Rm) (i : Nat) (h : i < r.bad.length) : r.own (i + 1) = r.own i + (if r.bad.getD i 0 < r.pages then 1 else 0) := by
  rw [Rm.own, List.take_succ_eq_append_getElem h, List.filter_append, List.length_append, List.getD_eq_getElem?_getD, List.getElem?_eq_getElem h]
  simp only [Option.getD_some, Rm.own]
  congr 1
  by_cases hc : r.bad[i] < r.pages <;> simp [hc]
theorem own_le (r : Rm) (i : Nat) : r.own i ≤ i := by
  have := List.length_filter_le (fun x => decide (x < r.pages)) (r.bad.take i)
  rw [List.length_take] at this
  unfold Rm.own; omega

set_option maxHeartbeats 4000000 in
theorem valid_v (r : Rm) (hs : r.sm) : VCalls Try.prog 15 [.agg r.d] [] (Ret (.bool r.okB)) := by
  refine vcalls_drop (fn := Try.f15) Try.func15 rfl (by kernel_rfl) (by simp [Try.f15]) ?_
  obtain ⟨hs1, hs2⟩ := hs
  have hbc := bad_v r hs2
  obtain ⟨pages, spares, places, bad⟩ := r
  dsimp only at hs1 hs2
  by_cases h1 : pages < 1
  · have e : Rm.okB ⟨pages, spares, places, bad⟩ = false := by simp [Rm.okB, Rm.headB, show ¬ 1 ≤ pages by omega]
    rw [e]
    simp (config := { maxSteps := 2000000 }) (implicitDefEqProofs := false) (disch := first | omega | assumption | (simp only []; done) | fail) only [vop_move, vcallee_move, vop_assign, vcallee_assign, vop_pick, vcallee_pick, vop_box, vcallee_box, vop_load, vcallee_load, vop_binOp, vcallee_binOp, vop_fieldAddr, vcallee_fieldAddr, bin2_int, vpick_bool, strip_pv, strip_ptr, strip_agg, strip_tup, optV_none, ev_tmp, ev_const, ofConst_int, ofConst_bool, put_some, at_mk, fits_some, ↓look_cons, ↓vlook_t, ↓vlook_f, guard_none, guard_some, vgof_bool, ↓vrun_nil, ↓code_region, ↓code_seq, ↓code_ret, ↓onNormal_normal, ↓onNormal_ret, frz_pv, frzHeap_zero, res_one, vres_tmp, load_ptr, vld_one, blk_zero, box_eq, allOne_nil, allOne_cons, one_pv, faddr_ptr, vfap_some, bin_int, int_lss, enum_nil, enum_cons, evG_eq, ↓vrun_cons, ↓run1_some, ↓runG_true, ↓runG_false, ↓run2_none, ↓run3_some, ↓code_cond, ↓vtest_bool, ↓vbr_true, ↓vpost_ret, vfin_some, vfin2_some, at_hp, pickV_t, dcells, List.toList_toArray, List.getElem?_cons_zero, List.getElem?_cons_succ, List.length_nil, List.nil_append, Option.map_some, Option.bind_some, ↓reduceIte, reduceCtorEq, Nat.reduceLT, Nat.reduceBEq, Int.reduceLT, Int.reduceBEq, Nat.zero_add, Nat.add_zero, and_self, Bool.not_true, Bool.and_self, b_beq_f, beq_self_eq_true, Try.vt3, Try.vfield29x0, dec_t, Ret, DV.nums, Try.f15, Rm.d, h1]
  by_cases h2 : 64 < pages
  · have e : Rm.okB ⟨pages, spares, places, bad⟩ = false := by simp [Rm.okB, Rm.headB, show ¬ pages ≤ 64 by omega]
    rw [e]
    simp (config := { maxSteps := 2000000 }) (implicitDefEqProofs := false) (disch := first | omega | assumption | (simp only []; done) | fail) only [vop_move, vcallee_move, vop_assign, vcallee_assign, vop_pick, vcallee_pick, vop_box, vcallee_box, vop_load, vcallee_load, vop_binOp, vcallee_binOp, vop_fieldAddr, vcallee_fieldAddr, bin2_int, vpick_bool, strip_pv, strip_ptr, strip_agg, strip_tup, strip_opt, vstr_true, optV_none, optV_some, pickV_bool, ev_tmp, ev_const, ofConst_int, ofConst_bool, put_some, at_mk, fits_some, ↓look_cons, ↓vlook_t, ↓vlook_f, guard_none, guard_some, vgof_bool, ↓vrun_nil, ↓code_region, ↓code_seq, ↓code_ret, ↓onNormal_normal, ↓onNormal_ret, frz_pv, frzHeap_zero, res_one, vres_tmp, load_ptr, vld_one, blk_zero, box_eq, allOne_nil, allOne_cons, one_pv, faddr_ptr, vfap_some, bin_int, int_lss, int_gtr, enum_nil, enum_cons, evG_eq, ↓vrun_cons, ↓run1_some, ↓runG_true, ↓runG_false, ↓run2_none, ↓run3_some, ↓code_cond, ↓vtest_bool, ↓vbr_true, ↓vpost_ret, vfin_some, vfin2_some, at_hp, pickV_t, dcells, List.toList_toArray, List.getElem?_cons_zero, List.getElem?_cons_succ, List.length_nil, List.nil_append, Option.map_some, Option.bind_some, ↓reduceIte, reduceCtorEq, Nat.reduceLT, Nat.reduceBEq, Int.reduceLT, Int.reduceBEq, Nat.zero_add, Nat.add_zero, decide_false, and_self, or_true, Bool.not_true, Bool.not_false, Bool.or_true, Bool.and_self, b_beq_f, Bool.cond_self, beq_self_eq_true, Try.vt3, Try.vfield29x0, dec_t, Ret, DV.nums, Try.f15, Rm.d, h1, h2]
  by_cases h3 : spares < 0
  · have e : Rm.okB ⟨pages, spares, places, bad⟩ = false := by simp [Rm.okB, Rm.headB, show ¬ 0 ≤ spares by omega]
    rw [e]
    simp (config := { maxSteps := 2000000 }) (implicitDefEqProofs := false) (disch := first | omega | assumption | (simp only []; done) | fail) only [vop_move, vcallee_move, vop_assign, vcallee_assign, vop_pick, vcallee_pick, vop_box, vcallee_box, vop_load, vcallee_load, vop_binOp, vcallee_binOp, vop_fieldAddr, vcallee_fieldAddr, bin2_int, vpick_bool, strip_pv, strip_ptr, strip_agg, strip_tup, strip_opt, vstr_true, optV_none, optV_some, pickV_bool, ev_tmp, ev_const, ofConst_int, ofConst_bool, put_some, at_mk, fits_some, ↓look_cons, ↓vlook_t, ↓vlook_f, guard_none, guard_some, vgof_bool, ↓vrun_nil, ↓code_region, ↓code_seq, ↓code_ret, ↓onNormal_normal, ↓onNormal_ret, frz_pv, frzHeap_zero, res_one, vres_tmp, load_ptr, vld_one, blk_zero, box_eq, allOne_nil, allOne_cons, one_pv, faddr_ptr, vfap_some, bin_int, int_lss, int_gtr, enum_nil, enum_cons, evG_eq, ↓vrun_cons, ↓run1_some, ↓runG_true, ↓runG_false, ↓run2_none, ↓run3_some, ↓code_cond, ↓vtest_bool, ↓vbr_true, ↓vpost_ret, vfin_some, vfin2_some, at_hp, pickV_t, dcells, List.toList_toArray, List.getElem?_cons_zero, List.getElem?_cons_succ, List.length_nil, List.nil_append, Option.map_some, Option.bind_some, ↓reduceIte, reduceCtorEq, Nat.reduceLT, Nat.reduceBEq, Int.reduceLT, Int.reduceBEq, Nat.zero_add, Nat.add_zero, decide_false, and_self, or_true, Bool.not_true, Bool.not_false, Bool.or_true, Bool.and_self, b_beq_f, cond_false, Bool.cond_self, beq_self_eq_true, Try.vt3, Try.vfield29x0, Try.vfield29x1, dec_t, Ret, DV.nums, Try.f15, Rm.d, h1, h2, h3]
  by_cases h4 : 16 < spares
  · have e : Rm.okB ⟨pages, spares, places, bad⟩ = false := by simp [Rm.okB, Rm.headB, show ¬ spares ≤ 16 by omega]
    rw [e]
    simp (config := { maxSteps := 2000000 }) (implicitDefEqProofs := false) (disch := first | omega | assumption | (simp only []; done) | fail) only [vop_move, vcallee_move, vop_assign, vcallee_assign, vop_pick, vcallee_pick, vop_box, vcallee_box, vop_load, vcallee_load, vop_binOp, vcallee_binOp, vop_fieldAddr, vcallee_fieldAddr, bin2_int, vpick_bool, strip_pv, strip_ptr, strip_agg, strip_tup, strip_opt, vstr_true, optV_none, optV_some, pickV_bool, ev_tmp, ev_const, ofConst_int, ofConst_bool, put_some, at_mk, fits_some, ↓look_cons, ↓vlook_t, ↓vlook_f, guard_none, guard_some, vgof_bool, ↓vrun_nil, ↓code_region, ↓code_seq, ↓code_ret, ↓onNormal_normal, ↓onNormal_ret, frz_pv, frzHeap_zero, res_one, vres_tmp, load_ptr, vld_one, blk_zero, box_eq, allOne_nil, allOne_cons, one_pv, faddr_ptr, vfap_some, bin_int, int_lss, int_gtr, enum_nil, enum_cons, evG_eq, ↓vrun_cons, ↓run1_some, ↓runG_true, ↓runG_false, ↓run2_none, ↓run3_some, ↓code_cond, ↓vtest_bool, ↓vbr_true, ↓vpost_ret, vfin_some, vfin2_some, at_hp, pickV_t, dcells, List.toList_toArray, List.getElem?_cons_zero, List.getElem?_cons_succ, List.length_nil, List.nil_append, Option.map_some, Option.bind_some, ↓reduceIte, reduceCtorEq, Nat.reduceLT, Nat.reduceBEq, Int.reduceLT, Int.reduceBEq, Nat.zero_add, Nat.add_zero, decide_false, and_self, or_true, Bool.not_true, Bool.not_false, Bool.or_true, Bool.and_self, b_beq_f, cond_false, Bool.cond_self, beq_self_eq_true, Try.vt3, Try.vfield29x0, Try.vfield29x1, dec_t, Ret, DV.nums, Try.f15, Rm.d, h1, h2, h3, h4]
  by_cases h5 : 64 < pages + spares
  · have e : Rm.okB ⟨pages, spares, places, bad⟩ = false := by simp [Rm.okB, Rm.headB, show ¬ pages + spares ≤ 64 by omega]
    rw [e]
    simp (config := { maxSteps := 2000000 }) (implicitDefEqProofs := false) (disch := first | omega | assumption | (simp only []; done) | fail) only [vop_move, vcallee_move, vop_assign, vcallee_assign, vop_pick, vcallee_pick, vop_box, vcallee_box, vop_load, vcallee_load, vop_binOp, vcallee_binOp, vop_fieldAddr, vcallee_fieldAddr, bin2_tmp, bin2_int, vpick_bool, strip_pv, strip_ptr, strip_agg, strip_opt, vstr_true, optV_none, optV_some, pickV_bool, ev_tmp, ev_const, ofConst_int, ofConst_bool, put_some, at_mk, fits_some, ↓look_cons, ↓vlook_t, ↓vlook_f, guard_none, guard_some, vgof_bool, ↓vrun_nil, ↓code_region, ↓code_seq, ↓code_ret, ↓onNormal_normal, ↓onNormal_ret, frz_pv, frzHeap_zero, res_one, vres_tmp, load_ptr, vld_one, blk_zero, box_eq, allOne_nil, allOne_cons, one_pv, faddr_ptr, vfap_some, bin_int, int_add, int_lss, int_gtr, enum_nil, enum_cons, evG_eq, ↓vrun_cons, ↓run1_some, ↓runG_true, ↓run2_none, ↓run3_some, ↓code_cond, ↓vtest_bool, ↓vbr_true, ↓vpost_ret, vfin_some, vfin2_some, at_hp, dcells, List.toList_toArray, List.getElem?_cons_zero, List.getElem?_cons_succ, List.length_nil, List.nil_append, Option.map_some, Option.bind_some, ↓reduceIte, reduceCtorEq, Nat.reduceLT, Nat.reduceBEq, Int.reduceLT, Int.reduceBEq, Nat.zero_add, Nat.add_zero, decide_false, and_self, or_true, Bool.not_true, Bool.not_false, Bool.or_true, Bool.and_self, cond_false, Bool.cond_self, beq_self_eq_true, Try.vt3, Try.vfield29x0, Try.vfield29x1, wrap_i64_in, dec_t, Ret, DV.nums, Try.f15, Rm.d, h1, h2, h3, h4, h5]
  have hhead : Rm.headB ⟨pages, spares, places, bad⟩ = true := by simp [Rm.headB]; omega
  simp (config := { maxSteps := 2000000 }) (implicitDefEqProofs := false) (disch := first | omega | assumption | (simp only []; done) | fail) only [vop_move, vcallee_move, vop_assign, vcallee_assign, vop_pick, vcallee_pick, vop_box, vcallee_box, vop_load, vcallee_load, vop_binOp, vcallee_binOp, vop_fieldAddr, vcallee_fieldAddr, vop_builtin, vcallee_builtin, bin2_tmp, bin2_int, vpick_bool, strip_pv, strip_ptr, strip_agg, strip_opt, vstr_true, optV_none, optV_some, pickV_bool, ev_tmp, ev_const, ofConst_int, ofConst_bool, put_some, at_mk, fits_some, ↓look_cons, ↓vlook_t, ↓vlook_f, guard_none, guard_some, vgof_bool, ↓vrun_nil, ↓code_skip, ↓code_region, ↓code_seq, ↓code_block, ↓code_loop, ↓onNormal_normal, load_ptr, vld_one, blk_zero, box_eq, allOne_nil, allOne_cons, one_pv, faddr_ptr, vfap_some, bin_int, int_add, int_lss, int_gtr, len_sl, vlk_sl, bi_len, enum_nil, enum_cons, evG_eq, ↓vrun_cons, ↓run1_some, ↓runG_true, ↓run2_none, ↓run3_some, ↓code_cond, ↓vtest_bool, ↓vbr_false, at_hp, List.map_nil, dcells, List.toList_toArray, List.getElem?_cons_zero, List.getElem?_cons_succ, List.length_nil, List.map_cons, List.map_nil, List.nil_append, Option.map_some, Option.bind_some, ↓reduceIte, reduceCtorEq, Nat.reduceLT, Nat.reduceBEq, Int.reduceLT, Int.reduceBEq, Nat.zero_add, Nat.add_zero, decide_false, true_and, and_self, or_true, Bool.not_true, Bool.not_false, Bool.or_true, Bool.true_and, Bool.and_self, cond_false, beq_self_eq_true, fz_len, Try.vt3, Try.vt27, Try.vkind27, Try.vfield29x0, Try.vfield29x1, Try.vfield29x3, wrap_i64_in, dec_t, Try.f15, Rm.d, h1, h2, h3, h4, h5]
  refine vloop (fun s : Okay bad.length (Rm.chkB ⟨pages, spares, places, bad⟩) => ⟨154, 0, [(38, .int .i64 s.i), (37, .int .i64 bad.length), (36, .pv (.sl (fz encI bad))), (3, .int .i64 (Rm.own ⟨pages, spares, places, bad⟩ s.i)), (2, .bool false), (1, .ptr 0 0)], [⟨29, true, Rm.d ⟨pages, spares, places, bad⟩⟩]⟩) (fun s => bad.length - s.i) (Okay.start _ _) (by refine ⟨rfl, rfl, by simp, ?_, ?_, .inl rfl⟩ <;> (repeat' apply And.intro) <;> first | rfl | trivial) ?_
  intro s
  have hi := s.hi
  simp (config := { maxSteps := 2000000 }) (implicitDefEqProofs := false) (disch := first | omega | assumption | (simp only []; done) | fail) only [vop_binOp, vcallee_binOp, bin2_tmp, strip_pv, optV_none, ev_tmp, put_some, at_mk, fits_some, ↓look_cons, ↓vlook_t, ↓vlook_f, guard_none, ↓vrun_nil, ↓code_region, ↓code_seq, ↓onNormal_normal, bin_int, int_lss, evG_eq, ↓vrun_cons, ↓run1_some, ↓runG_true, ↓run2_none, ↓run3_some, ↓code_cond, ↓vtest_bool, Option.map_some, Nat.reduceLT, Nat.reduceBEq, Int.reduceLT, Int.reduceBEq, true_and, Bool.true_and, beq_self_eq_true, dec_t, Rm.d]
  refine vbr_split (fun hc => ?_) (fun hc => ?_) <;> simp only [decide_eq_true_eq, decide_eq_false_iff_not, Bool.or_eq_true, Bool.and_eq_true, Bool.or_eq_false_iff, Bool.and_eq_false_imp, Bool.not_eq_true', Bool.not_eq_false', beq_iff_eq, beq_eq_false_iff_ne, bne_iff_ne, bne_eq_false_iff_eq, ne_eq] at hc
  · have hlt : s.i < bad.length := by omega
    have hg := fzI_get bad s.i hlt
    have hg2 : s.i ≠ 0 → (fz encI bad)[((s.i : Int) - 1).toNat]? = some [.lit (.int .i64 (bad.getD (s.i - 1) 0))] := fun h0 => by
      rw [show ((s.i : Int) - 1).toNat = s.i - 1 by omega]; exact fzI_get bad (s.i - 1) (by omega)
    have hos := own_succ ⟨pages, spares, places, bad⟩ s.i hlt
    have hol := own_le ⟨pages, spares, places, bad⟩ s.i
    have hfail : Rm.chkB ⟨pages, spares, places, bad⟩ s.i = false → Rm.okB ⟨pages, spares, places, bad⟩ = false := fun h => by
      rw [Rm.okB, all_not hlt h]; simp
    dsimp only at hos
    generalize hown : Rm.own ⟨pages, spares, places, bad⟩ s.i = o at hos hol
    obtain ⟨b, hbd⟩ : ∃ b, bad.getD s.i 0 = b := ⟨_, rfl⟩
    have hchk : Rm.chkB ⟨pages, spares, places, bad⟩ s.i = (decide (0 ≤ b) && decide (b < pages + spares) && (decide (s.i = 0) || decide (bad.getD (s.i - 1) 0 < b))) := by rw [← hbd]; rfl
    rw [hbd] at hg hos
    have step : Rm.chkB ⟨pages, spares, places, bad⟩ s.i = true → ∃ t : Okay bad.length (Rm.chkB ⟨pages, spares, places, bad⟩), t.i = s.i + 1 ∧ Rm.own ⟨pages, spares, places, bad⟩ t.i = o + (if b < pages then 1 else 0) := fun h => ⟨s.next hlt h, rfl, hos⟩
    by_cases c0 : s.i = 0
    · have hs0 : ¬ (0 : Int) < (s.i : Int) := by omega
      have hidx : vias (some (none, 3, 1)) (fz encI bad)[((s.i : Int) - 1).toNat]? ((s.i : Int) - 1) = none := by
        rw [show ((s.i : Int) - 1).toNat = 0 by omega, fzI_get bad 0 (by omega)]; simp [vias]; omega
      by_cases c1 : b < 0
      · rw [hfail (by rw [hchk]; simp [show ¬ 0 ≤ b by omega])]
        simp (config := { maxSteps := 2000000 }) (implicitDefEqProofs := false) (disch := first | omega | assumption | (simp only [List.length_cons, List.length_nil, Nat.zero_add]; done) | fail) only [vop_move, vcallee_move, vop_assign, vcallee_assign, vop_pick, vcallee_pick, vop_load, vcallee_load, vop_binOp, vcallee_binOp, vop_indexAddr, vcallee_indexAddr, bin2_int, vpick_bool, strip_pv, strip_ip, strip_tup, optV_none, ev_tmp, ev_const, ofConst_int, ofConst_bool, put_some, at_mk, fits_some, ↓look_cons, ↓vlook_t, ↓vlook_f, guard_none, guard_some, vgof_bool, vgof_skip, ↓vrun_nil, ↓code_skip, ↓code_region, ↓code_seq, ↓code_block, ↓code_ret, ↓onNormal_normal, ↓onNormal_ret, ↓onBlock_ret, frz_pv, frzHeap_zero, res_one, vres_tmp, load_ip, vldp_one, iaddr_sl, vias_some, bin_int, int_lss, evG_eq, ↓vrun_cons, ↓run1_some, ↓runG_true, ↓runG_false, ↓run2_none, ↓run3_some, ↓code_cond, ↓vtest_bool, ↓vbr_true, ↓vpost_ret, vfin_some, vfin2_some, at_hp, pickV_t, List.getElem?_cons_zero, List.getElem?_cons_succ, Option.map_some, Option.bind_some, Nat.reduceLT, Nat.reduceBEq, Int.reduceLT, Int.reduceBEq, Int.toNat_natCast, and_self, Bool.not_true, Bool.and_self, b_beq_f, beq_self_eq_true, Try.vt3, Try.velem27, dec_t, Ret, DV.nums, hg, c1]
      by_cases c2 : pages + spares ≤ b
      · rw [hfail (by rw [hchk]; simp [show ¬ b < pages + spares by omega])]
        simp (config := { maxSteps := 2000000 }) (implicitDefEqProofs := false) (disch := first | omega | assumption | (simp only [List.length_cons, List.length_nil, Nat.zero_add]; done) | fail) only [vop_move, vcallee_move, vop_assign, vcallee_assign, vop_pick, vcallee_pick, vop_load, vcallee_load, vop_binOp, vcallee_binOp, vop_fieldAddr, vcallee_fieldAddr, vop_indexAddr, vcallee_indexAddr, bin2_tmp, bin2_int, vpick_bool, strip_pv, strip_ptr, strip_ip, strip_tup, strip_opt, vstr_true, optV_none, optV_some, pickV_bool, ev_tmp, ev_const, ofConst_int, ofConst_bool, put_some, at_mk, fits_some, ↓look_cons, ↓vlook_t, ↓vlook_f, guard_none, guard_some, vgof_bool, vgof_skip, ↓vrun_nil, ↓code_skip, ↓code_region, ↓code_seq, ↓code_block, ↓code_ret, ↓onNormal_normal, ↓onNormal_ret, ↓onBlock_ret, frz_pv, frzHeap_zero, res_one, vres_tmp, load_ptr, load_ip, vld_one, vldp_one, blk_zero, faddr_ptr, vfap_some, iaddr_sl, vias_some, bin_int, int_add, int_lss, int_geq, evG_eq, ↓vrun_cons, ↓run1_some, ↓runG_true, ↓runG_false, ↓run2_none, ↓run3_some, ↓code_cond, ↓vtest_bool, ↓vbr_true, ↓vpost_ret, vfin_some, vfin2_some, at_hp, pickV_t, List.getElem?_cons_zero, List.getElem?_cons_succ, Option.map_some, Option.bind_some, ↓reduceIte, reduceCtorEq, Nat.reduceLT, Nat.reduceBEq, Int.reduceLT, Int.reduceBEq, Int.toNat_natCast, Nat.zero_add, Nat.add_zero, decide_false, and_self, or_true, Bool.not_true, Bool.not_false, Bool.or_true, Bool.and_self, b_beq_f, Bool.cond_self, beq_self_eq_true, Try.vt3, Try.velem27, Try.vfield29x0, Try.vfield29x1, wrap_i64_in, dec_t, Ret, DV.nums, hg, c1, c2]
      obtain ⟨t, ht1, ht2⟩ := step (by rw [hchk]; simp [c0]; omega)
      by_cases c4 : b < pages
      · rw [if_pos c4] at ht2
        simp (config := { maxSteps := 2000000 }) (implicitDefEqProofs := false) (disch := first | omega | assumption | (simp only [List.length_cons, List.length_nil, Nat.zero_add]; done) | fail) only [vop_move, vcallee_move, vop_assign, vcallee_assign, vop_pick, vcallee_pick, vop_load, vcallee_load, vop_binOp, vcallee_binOp, vop_fieldAddr, vcallee_fieldAddr, vop_indexAddr, vcallee_indexAddr, bin2_tmp, bin2_int, vpick_bool, strip_pv, strip_ptr, strip_ip, strip_tup, strip_opt, vstr_true, optV_none, optV_some, pickV_bool, ev_tmp, ev_const, ofConst_int, ofConst_bool, put_some, at_mk, fits_some, ↓look_cons, ↓vlook_t, ↓vlook_f, guard_none, guard_some, vgof_bool, vgof_opt, ↓vrun_nil, ↓code_skip, ↓code_region, ↓code_seq, ↓code_block, ↓onNormal_normal, ↓onBlock_normal, load_ptr, load_ip, vld_one, vldp_one, blk_zero, faddr_ptr, vfap_some, iaddr_sl, vias_some, bin_int, int_add, int_lss, int_gtr, int_geq, evG_eq, ↓vrun_cons, ↓run1_some, ↓runG_true, ↓runG_false, ↓run2_none, ↓run3_some, ↓code_cond, ↓vtest_bool, ↓vbr_true, ↓vbr_false, at_hp, pickV_f, List.getElem?_cons_zero, List.getElem?_cons_succ, Option.map_some, Option.bind_some, ↓reduceIte, reduceCtorEq, Nat.reduceLT, Nat.reduceBEq, Int.reduceLT, Int.reduceBEq, Int.toNat_natCast, Nat.zero_add, Nat.add_zero, decide_false, true_and, and_false, or_true, Bool.not_true, Bool.not_false, Bool.or_true, Bool.true_and, Bool.and_false, b_beq_t, cond_false, beq_self_eq_true, Try.vt3, Try.velem27, Try.vfield29x0, Try.vfield29x1, wrap_i64_in, dec_t, hg, hs0, c1, c2, c4]
        refine ⟨t, by rw [ht1]; omega, ?_⟩
        rw [ht2, ht1]
        exact (by refine ⟨rfl, rfl, by simp, ?_, ?_, .inl rfl⟩ <;> (repeat' apply And.intro) <;> first | rfl | trivial)
      · rw [if_neg c4] at ht2
        simp (config := { maxSteps := 2000000 }) (implicitDefEqProofs := false) (disch := first | omega | assumption | (simp only [List.length_cons, List.length_nil, Nat.zero_add]; done) | fail) only [vop_move, vcallee_move, vop_assign, vcallee_assign, vop_pick, vcallee_pick, vop_load, vcallee_load, vop_binOp, vcallee_binOp, vop_fieldAddr, vcallee_fieldAddr, vop_indexAddr, vcallee_indexAddr, bin2_tmp, bin2_int, vpick_bool, strip_pv, strip_ptr, strip_ip, strip_tup, strip_opt, vstr_true, optV_none, optV_some, pickV_bool, ev_tmp, ev_const, ofConst_int, ofConst_bool, put_some, at_mk, fits_some, ↓look_cons, ↓vlook_t, ↓vlook_f, guard_none, guard_some, vgof_bool, vgof_opt, ↓vrun_nil, ↓code_skip, ↓code_region, ↓code_seq, ↓code_block, ↓onNormal_normal, ↓onBlock_normal, load_ptr, load_ip, vld_one, vldp_one, blk_zero, faddr_ptr, vfap_some, iaddr_sl, vias_some, bin_int, int_add, int_lss, int_gtr, int_geq, evG_eq, ↓vrun_cons, ↓run1_some, ↓runG_true, ↓runG_false, ↓run2_none, ↓run3_some, ↓code_cond, ↓vtest_bool, ↓vbr_false, at_hp, pickV_f, List.getElem?_cons_zero, List.getElem?_cons_succ, Option.map_some, Option.bind_some, ↓reduceIte, reduceCtorEq, Nat.reduceLT, Nat.reduceBEq, Int.reduceLT, Int.reduceBEq, Int.toNat_natCast, Nat.zero_add, Nat.add_zero, decide_false, true_and, and_false, or_true, Bool.not_true, Bool.not_false, Bool.or_true, Bool.true_and, Bool.and_false, b_beq_t, cond_false, beq_self_eq_true, Try.vt3, Try.velem27, Try.vfield29x0, Try.vfield29x1, wrap_i64_in, dec_t, hg, hs0, c1, c2, c4]
        refine ⟨t, by rw [ht1]; omega, ?_⟩
        rw [ht2, ht1]
        exact (by refine ⟨rfl, rfl, by simp, ?_, ?_, .inl rfl⟩ <;> (repeat' apply And.intro) <;> first | rfl | trivial)
    · have hs0 : (0 : Int) < (s.i : Int) := by omega
      obtain ⟨q, hq⟩ : ∃ q, bad.getD (s.i - 1) 0 = q := ⟨_, rfl⟩
      have hidx : vias (some (none, 3, 1)) (fz encI bad)[((s.i : Int) - 1).toNat]? ((s.i : Int) - 1) = some (.ip [.lit (.int .i64 q)]) := by
        rw [hg2 c0, hq]; simp [vias]; omega
      rw [hq] at hchk
      by_cases c1 : b < 0
      · rw [hfail (by rw [hchk]; simp [show ¬ 0 ≤ b by omega])]
        simp (config := { maxSteps := 2000000 }) (implicitDefEqProofs := false) (disch := first | omega | assumption | (simp only [List.length_cons, List.length_nil, Nat.zero_add]; done) | fail) only [vop_move, vcallee_move, vop_assign, vcallee_assign, vop_pick, vcallee_pick, vop_load, vcallee_load, vop_binOp, vcallee_binOp, vop_indexAddr, vcallee_indexAddr, bin2_int, vpick_bool, strip_pv, strip_ip, strip_tup, optV_none, ev_tmp, ev_const, ofConst_int, ofConst_bool, put_some, at_mk, fits_some, ↓look_cons, ↓vlook_t, ↓vlook_f, guard_none, guard_some, vgof_bool, vgof_skip, ↓vrun_nil, ↓code_skip, ↓code_region, ↓code_seq, ↓code_block, ↓code_ret, ↓onNormal_normal, ↓onNormal_ret, ↓onBlock_ret, frz_pv, frzHeap_zero, res_one, vres_tmp, load_ip, vldp_one, iaddr_sl, vias_some, bin_int, int_lss, evG_eq, ↓vrun_cons, ↓run1_some, ↓runG_true, ↓runG_false, ↓run2_none, ↓run3_some, ↓code_cond, ↓vtest_bool, ↓vbr_true, ↓vpost_ret, vfin_some, vfin2_some, at_hp, pickV_t, List.getElem?_cons_zero, List.getElem?_cons_succ, Option.map_some, Option.bind_some, Nat.reduceLT, Nat.reduceBEq, Int.reduceLT, Int.reduceBEq, Int.toNat_natCast, and_self, Bool.not_true, Bool.and_self, b_beq_f, beq_self_eq_true, Try.vt3, Try.velem27, dec_t, Ret, DV.nums, hg, c1]
      by_cases c2 : pages + spares ≤ b
      · rw [hfail (by rw [hchk]; simp [show ¬ b < pages + spares by omega])]
        simp (config := { maxSteps := 2000000 }) (implicitDefEqProofs := false) (disch := first | omega | assumption | (simp only [List.length_cons, List.length_nil, Nat.zero_add]; done) | fail) only [vop_move, vcallee_move, vop_assign, vcallee_assign, vop_pick, vcallee_pick, vop_load, vcallee_load, vop_binOp, vcallee_binOp, vop_fieldAddr, vcallee_fieldAddr, vop_indexAddr, vcallee_indexAddr, bin2_tmp, bin2_int, vpick_bool, strip_pv, strip_ptr, strip_ip, strip_tup, strip_opt, vstr_true, optV_none, optV_some, pickV_bool, ev_tmp, ev_const, ofConst_int, ofConst_bool, put_some, at_mk, fits_some, ↓look_cons, ↓vlook_t, ↓vlook_f, guard_none, guard_some, vgof_bool, vgof_skip, ↓vrun_nil, ↓code_skip, ↓code_region, ↓code_seq, ↓code_block, ↓code_ret, ↓onNormal_normal, ↓onNormal_ret, ↓onBlock_ret, frz_pv, frzHeap_zero, res_one, vres_tmp, load_ptr, load_ip, vld_one, vldp_one, blk_zero, faddr_ptr, vfap_some, iaddr_sl, vias_some, bin_int, int_add, int_lss, int_geq, evG_eq, ↓vrun_cons, ↓run1_some, ↓runG_true, ↓runG_false, ↓run2_none, ↓run3_some, ↓code_cond, ↓vtest_bool, ↓vbr_true, ↓vpost_ret, vfin_some, vfin2_some, at_hp, pickV_t, List.getElem?_cons_zero, List.getElem?_cons_succ, Option.map_some, Option.bind_some, ↓reduceIte, reduceCtorEq, Nat.reduceLT, Nat.reduceBEq, Int.reduceLT, Int.reduceBEq, Int.toNat_natCast, Nat.zero_add, Nat.add_zero, decide_false, and_self, or_true, Bool.not_true, Bool.not_false, Bool.or_true, Bool.and_self, b_beq_f, Bool.cond_self, beq_self_eq_true, Try.vt3, Try.velem27, Try.vfield29x0, Try.vfield29x1, wrap_i64_in, dec_t, Ret, DV.nums, hg, c1, c2]
      by_cases c3 : b ≤ q
      · rw [hfail (by rw [hchk]; simp [c0]; omega)]
        simp (config := { maxSteps := 2000000 }) (implicitDefEqProofs := false) (disch := first | omega | assumption | (simp only [List.length_cons, List.length_nil, Nat.zero_add]; done) | fail) only [vop_move, vcallee_move, vop_assign, vcallee_assign, vop_pick, vcallee_pick, vop_load, vcallee_load, vop_binOp, vcallee_binOp, vop_fieldAddr, vcallee_fieldAddr, vop_indexAddr, vcallee_indexAddr, bin2_tmp, bin2_int, vpick_bool, strip_pv, strip_ptr, strip_ip, strip_opt, vstr_true, optV_none, optV_some, pickV_bool, ev_tmp, ev_const, ofConst_int, ofConst_bool, put_some, at_mk, fits_some, ↓look_cons, ↓vlook_t, ↓vlook_f, guard_none, guard_some, vgof_bool, vgof_opt, ↓vrun_nil, ↓code_skip, ↓code_region, ↓code_seq, ↓code_block, ↓code_ret, ↓onNormal_normal, ↓onNormal_ret, ↓onBlock_ret, frz_pv, frzHeap_zero, res_one, vres_tmp, load_ptr, load_ip, vld_one, vldp_one, blk_zero, faddr_ptr, vfap_some, iaddr_sl, vias_some, bin_int, int_add, int_sub, int_lss, int_gtr, int_geq, evG_eq, ↓vrun_cons, ↓run1_some, ↓runG_true, ↓run2_none, ↓run3_some, ↓code_cond, ↓vtest_bool, ↓vbr_true, ↓vpost_ret, vfin_some, vfin2_some, at_hp, List.getElem?_cons_zero, List.getElem?_cons_succ, Option.map_some, Option.bind_some, ↓reduceIte, reduceCtorEq, Nat.reduceLT, Nat.reduceBEq, Int.reduceLT, Int.reduceBEq, Int.toNat_natCast, Nat.zero_add, Nat.add_zero, decide_false, and_self, or_true, Bool.not_true, Bool.not_false, Bool.or_true, Bool.and_self, cond_true, cond_false, Bool.cond_self, beq_self_eq_true, Try.vt3, Try.vt27, Try.velem27, Try.vfield29x0, Try.vfield29x1, Try.vfield29x3, wrap_i64_in, dec_t, Ret, DV.nums, hg, hidx, hs0, c1, c2, c3]
      obtain ⟨t, ht1, ht2⟩ := step (by rw [hchk]; simp [c0]; omega)
      by_cases c4 : b < pages
      · rw [if_pos c4] at ht2
        simp (config := { maxSteps := 2000000 }) (implicitDefEqProofs := false) (disch := first | omega | assumption | (simp only [List.length_cons, List.length_nil, Nat.zero_add]; done) | fail) only [vop_move, vcallee_move, vop_assign, vcallee_assign, vop_pick, vcallee_pick, vop_load, vcallee_load, vop_binOp, vcallee_binOp, vop_fieldAddr, vcallee_fieldAddr, vop_indexAddr, vcallee_indexAddr, bin2_tmp, bin2_int, vpick_bool, strip_pv, strip_ptr, strip_ip, strip_opt, vstr_true, optV_none, optV_some, pickV_bool, ev_tmp, ev_const, ofConst_int, ofConst_bool, put_some, at_mk, fits_some, ↓look_cons, ↓vlook_t, ↓vlook_f, guard_none, guard_some, vgof_bool, vgof_opt, ↓vrun_nil, ↓code_skip, ↓code_region, ↓code_seq, ↓code_block, ↓onNormal_normal, ↓onBlock_normal, load_ptr, load_ip, vld_one, vldp_one, blk_zero, faddr_ptr, vfap_some, iaddr_sl, vias_some, bin_int, int_add, int_sub, int_lss, int_gtr, int_geq, evG_eq, ↓vrun_cons, ↓run1_some, ↓runG_true, ↓run2_none, ↓run3_some, ↓code_cond, ↓vtest_bool, ↓vbr_true, ↓vbr_false, at_hp, List.getElem?_cons_zero, List.getElem?_cons_succ, Option.map_some, Option.bind_some, ↓reduceIte, reduceCtorEq, Nat.reduceLT, Nat.reduceBEq, Int.reduceLT, Int.reduceBEq, Int.toNat_natCast, Nat.zero_add, Nat.add_zero, decide_false, true_and, and_self, or_true, Bool.not_true, Bool.not_false, Bool.or_true, Bool.true_and, Bool.and_self, cond_false, Bool.cond_self, beq_self_eq_true, Try.vt3, Try.vt27, Try.velem27, Try.vfield29x0, Try.vfield29x1, Try.vfield29x3, wrap_i64_in, dec_t, hg, hidx, hs0, c1, c2, c3, c4]
        refine ⟨t, by rw [ht1]; omega, ?_⟩
        rw [ht2, ht1]
        exact (by refine ⟨rfl, rfl, by simp, ?_, ?_, .inl rfl⟩ <;> (repeat' apply And.intro) <;> first | rfl | trivial)
      · rw [if_neg c4] at ht2
        simp (config := { maxSteps := 2000000 }) (implicitDefEqProofs := false) (disch := first | omega | assumption | (simp only [List.length_cons, List.length_nil, Nat.zero_add]; done) | fail) only [vop_move, vcallee_move, vop_assign, vcallee_assign, vop_pick, vcallee_pick, vop_load, vcallee_load, vop_binOp, vcallee_binOp, vop_fieldAddr, vcallee_fieldAddr, vop_indexAddr, vcallee_indexAddr, bin2_tmp, bin2_int, vpick_bool, strip_pv, strip_ptr, strip_ip, strip_opt, vstr_true, optV_none, optV_some, pickV_bool, ev_tmp, ev_const, ofConst_int, ofConst_bool, put_some, at_mk, fits_some, ↓look_cons, ↓vlook_t, ↓vlook_f, guard_none, guard_some, vgof_bool, vgof_opt, ↓vrun_nil, ↓code_skip, ↓code_region, ↓code_seq, ↓code_block, ↓onNormal_normal, ↓onBlock_normal, load_ptr, load_ip, vld_one, vldp_one, blk_zero, faddr_ptr, vfap_some, iaddr_sl, vias_some, bin_int, int_add, int_sub, int_lss, int_gtr, int_geq, evG_eq, ↓vrun_cons, ↓run1_some, ↓runG_true, ↓run2_none, ↓run3_some, ↓code_cond, ↓vtest_bool, ↓vbr_false, at_hp, List.getElem?_cons_zero, List.getElem?_cons_succ, Option.map_some, Option.bind_some, ↓reduceIte, reduceCtorEq, Nat.reduceLT, Nat.reduceBEq, Int.reduceLT, Int.reduceBEq, Int.toNat_natCast, Nat.zero_add, Nat.add_zero, decide_false, true_and, and_self, or_true, Bool.not_true, Bool.not_false, Bool.or_true, Bool.true_and, Bool.and_self, cond_false, Bool.cond_self, beq_self_eq_true, Try.vt3, Try.vt27, Try.velem27, Try.vfield29x0, Try.vfield29x1, Try.vfield29x3, wrap_i64_in, dec_t, hg, hidx, hs0, c1, c2, c3, c4]
        refine ⟨t, by rw [ht1]; omega, ?_⟩
        rw [ht2, ht1]
        exact (by refine ⟨rfl, rfl, by simp, ?_, ?_, .inl rfl⟩ <;> (repeat' apply And.intro) <;> first | rfl | trivial)
  · have hallB := s.all (by omega)
    have hasc := bad_asc ⟨pages, spares, places, bad⟩ hallB
    have hbc := hbc hasc
    obtain ⟨n, hn⟩ : ∃ n, Rm.own ⟨pages, spares, places, bad⟩ s.i = n := ⟨_, rfl⟩
    have hsi : s.i = bad.length := by omega
    rw [hn]
    rw [hsi] at hn
    simp (config := { maxSteps := 2000000 }) (implicitDefEqProofs := false) (disch := first | omega | assumption | (simp only []; done) | fail) only [vop_move, vcallee_move, vop_alloc, vcallee_alloc, vop_load, vcallee_load, vop_fieldAddr, vcallee_fieldAddr, vop_builtin, vcallee_builtin, strip_pv, strip_ptr, optV_none, ev_tmp, ev_const, ofConst_int, put_some, at_mk, fits_some, ↓look_cons, ↓vlook_t, ↓vlook_f, guard_none, ↓vrun_nil, ↓code_region, ↓code_seq, ↓code_block, ↓code_loop, ↓code_exit, ↓onNormal_normal, ↓onNormal_exit, ↓onBlock_exit, load_ptr, vld_one, blk_zero, alloc_eq, val1_some, allOne_nil, allOne_cons, one_pv, faddr_ptr, vfap_some, len_sl, vlk_sl, bi_len, evG_eq, ↓vrun_cons, ↓run1_some, ↓runG_true, ↓run2_none, ↓run3_some, at_hp, List.map_nil, List.getElem?_cons_zero, List.getElem?_cons_succ, List.length_cons, List.length_nil, List.map_cons, List.map_nil, List.cons_append, List.nil_append, Option.map_some, ↓reduceIte, reduceCtorEq, Nat.reduceLT, Nat.reduceBEq, Int.reduceLT, Int.reduceBEq, Nat.zero_add, true_and, and_self, Bool.true_and, Bool.and_self, beq_self_eq_true, fz_len, Try.vt26, Try.vkind26, Try.vfield29x2, Try.vzero75, dec_t, dec_f]
    have zz : True := trivial
    refine vloopW (fun s : Okay places.length (Rm.chkP ⟨pages, spares, places, bad⟩) => ⟨154, 0, [(78, .int .i64 s.i), (77, .int .i64 places.length), (76, .pv (.sl (fz encP places))), (6, .ptr 1 0), (3, .int .i64 n), (2, .bool false), (1, .ptr 0 0)], [⟨29, true, Rm.d ⟨pages, spares, places, bad⟩⟩, ⟨75, true, cells encB (usedL ((places.take s.i).map (·.ad)))⟩]⟩) (fun s => places.length - s.i) (Okay.start _ _) (.inl (by refine ⟨rfl, rfl, by simp, ?_, ?_, .inr ⟨?_, ?_⟩⟩ <;> (repeat' apply And.intro) <;> first | rfl | trivial | (intro _; first | rfl | apply cells_refs))) ?_
    intro s2
    have hi2 := s2.hi
    simp (config := { maxSteps := 2000000 }) (implicitDefEqProofs := false) (disch := first | omega | assumption) only [vop_binOp, vcallee_binOp, bin2_tmp, strip_pv, optV_none, ev_tmp, put_some, at_mk, fits_some, ↓look_cons, ↓vlook_t, ↓vlook_f, guard_none, ↓vrun_nil, ↓code_region, ↓code_seq, ↓onNormal_normal, bin_int, int_lss, evG_eq, ↓vrun_cons, ↓run1_some, ↓runG_true, ↓run2_none, ↓run3_some, ↓code_cond, ↓vtest_bool, Option.map_some, Nat.reduceLT, Nat.reduceBEq, Int.reduceLT, Int.reduceBEq, true_and, Bool.true_and, beq_self_eq_true, dec_t, Rm.d]
    refine vbr_split (fun hc2 => ?_) (fun hc2 => ?_) <;> simp only [decide_eq_true_eq, decide_eq_false_iff_not, Bool.or_eq_true, Bool.and_eq_true, Bool.or_eq_false_iff, Bool.and_eq_false_imp, Bool.not_eq_true', Bool.not_eq_false', beq_iff_eq, beq_eq_false_iff_ne, bne_iff_ne, bne_eq_false_iff_eq, ne_eq] at hc2
    · have hlt : s2.i < places.length := by omega
      have hfail : Rm.chkP ⟨pages, spares, places, bad⟩ s2.i = false → Rm.okB ⟨pages, spares, places, bad⟩ = false := fun h => by
        rw [Rm.okB, all_not (c := Rm.chkP ⟨pages, spares, places, bad⟩) hlt h]; simp
      obtain ⟨p, hp⟩ : ∃ p, places.getD s2.i P0 = p := ⟨_, rfl⟩
      have hg : (fz encP places)[s2.i]? = some [.lit (.int .i64 p.pg), .lit (.int .i64 p.ad)] := by
        rw [← hp, List.getD_eq_getElem?_getD, List.getElem?_eq_getElem hlt]; exact fz_at encP places s2.i hlt
      have htk := take_succ_map places s2.i hlt
      rw [hp] at htk
      obtain ⟨u, hu⟩ : ∃ u, (places.take s2.i).map (·.ad) = u := ⟨_, rfl⟩
      have hchk : Rm.chkP ⟨pages, spares, places, bad⟩ s2.i = (decide (0 ≤ p.pg) && decide (p.pg < pages) && (decide (s2.i = 0) || decide ((places.getD (s2.i - 1) P0).pg < p.pg)) && decide (p.pg ∈ bad) && decide (pages ≤ p.ad) && decide (p.ad < pages + spares) && !decide (p.ad ∈ bad) && !decide (p.ad ∈ u)) := by rw [← hp, ← hu]; rfl
      rw [hu] at htk
      rw [hu]
      have step : Rm.chkP ⟨pages, spares, places, bad⟩ s2.i = true → ∃ t : Okay places.length (Rm.chkP ⟨pages, spares, places, bad⟩), t.i = s2.i + 1 := fun h => ⟨s2.next hlt h, rfl⟩
      have hb1 := hbc p.pg
      have hb2 := hbc p.ad
      dsimp only at hb1 hb2
      obtain ⟨pg, ad⟩ := p
      dsimp only at hg htk hchk hb1 hb2
      by_cases c0 : s2.i = 0
      · have hs0 : ¬ (0 : Int) < (s2.i : Int) := by omega
        have hidx : vias (some (none, 73, 2)) (fz encP places)[((s2.i : Int) - 1).toNat]? ((s2.i : Int) - 1) = none := by
          rw [show ((s2.i : Int) - 1).toNat = 0 by omega, fz_at encP places 0 (by omega)]; simp [vias]; omega
        by_cases d1 : pg < 0
        · rw [hfail (by rw [hchk]; simp [show ¬ 0 ≤ pg by omega])]
          simp (config := { maxSteps := 2000000 }) (implicitDefEqProofs := false) (disch := first | omega | assumption | (simp only [List.length_cons, List.length_nil, Nat.zero_add, Nat.reduceAdd]; done) | fail) only [vop_move, vcallee_move, vop_assign, vcallee_assign, vop_alloc, vcallee_alloc, vop_load, vcallee_load, vop_store, vcallee_store, vop_indexAddr, vcallee_indexAddr, strip_pv, strip_ptr, strip_ip, strip_agg, optV_none, ev_tmp, put_some, put_none, at_mk, fits_some, fits_none, ↓look_cons, ↓vlook_t, ↓vlook_f, guard_none, ↓vrun_nil, ↓code_skip, ↓code_region, ↓code_draw, ↓code_seq, ↓code_block, ↓onNormal_normal, load_ip, vldp_agg, store_ptr, vst_agg, blk_zero, blk_succ, set_zero, set_succ, alloc_eq, val1_some, allOne_nil, allOne_cons, one_pv, iaddr_sl, vias_some, evG_eq, ↓vrun_cons, ↓run1_some, ↓runG_true, ↓run2_none, ↓run3_some, at_hp, List.map_nil, V.splice, List.length_cons, List.length_nil, List.map_cons, List.map_nil, List.cons_append, List.nil_append, List.append_nil, List.take_succ_cons, List.take_zero, List.take_nil, List.drop_succ_cons, List.drop_nil, Option.map_some, ↓reduceIte, Nat.reduceAdd, Nat.reduceLT, Nat.reduceBEq, Int.reduceLT, Int.reduceAdd, Int.reduceBEq, Int.toNat_natCast, Nat.zero_add, true_and, and_self, Bool.true_and, Bool.and_self, beq_self_eq_true, Nat.le_refl, Try.velem26, Try.vt73, Try.vzero73, dec_t, hg]
          refine vdraw (by kernel_rfl) (by kernel_rfl) ?_
          simp (config := { maxSteps := 2000000 }) (implicitDefEqProofs := false) (disch := first | omega | assumption) only [vop_move, vcallee_move, okKind_move, foot_move, vop_assign, vcallee_assign, okKind_assign, foot_assign, vop_pick, vcallee_pick, okKind_pick, foot_pick, vop_load, vcallee_load, okKind_load, vop_binOp, vcallee_binOp, okKind_binOp, foot_binOp, vop_fieldAddr, vcallee_fieldAddr, okKind_fieldAddr, foot_fieldAddr, foot_load, ptrNo_ptr, bin2_int, vpick_bool, strip_pv, strip_ptr, strip_tup, optV_none, ev_tmp, ev_const, ofConst_int, ofConst_bool, put_some, at_mk, fits_some, ↓look_cons, ↓vlook_t, ↓vlook_f, guard_none, guard_some, vgof_bool, vgof_skip, ↓vrun_nil, ↓vdr_nil, ↓code_region, ↓code_seq, ↓code_ret, ↓onNormal_normal, ↓onNormal_ret, ↓onBlock_ret, frz_pv, frzHeap_zero, res_one, vres_tmp, load_ptr, vld_one, blk_zero, blk_succ, faddr_ptr, vfap_some, bin_int, int_lss, okc_nil, okc_none, okc_other, evG_eq, ↓vrun_cons, ↓run1_some, ↓runG_true, ↓run2_none, ↓run3_some, ↓vdr_cons, ↓dr1_some, ↓drG_true, ↓drG_false, ↓dr2_none, ↓dr3_some, ↓code_cond, ↓vtest_bool, ↓vbr_true, ↓vpost_ret, vfin_some, vfin2_some, at_hp, pickV_t, List.getElem?_cons_zero, List.getElem?_cons_succ, List.cons_append, List.nil_append, Option.map_some, Option.bind_some, ↓reduceIte, reduceCtorEq, Nat.reduceAdd, Nat.reduceLT, Nat.reduceBEq, Int.reduceLT, Int.reduceAdd, Int.reduceBEq, Nat.zero_add, Nat.add_zero, and_self, Bool.not_true, Bool.and_self, b_beq_f, beq_self_eq_true, Try.vt3, Try.vfield73x0, dec_t, Ret, DV.nums, d1]
        by_cases d2 : pages ≤ pg
        · rw [hfail (by rw [hchk]; simp [show ¬ pg < pages by omega])]
          simp (config := { maxSteps := 2000000 }) (implicitDefEqProofs := false) (disch := first | omega | assumption | (simp only [List.length_cons, List.length_nil, Nat.zero_add, Nat.reduceAdd]; done) | fail) only [vop_move, vcallee_move, vop_assign, vcallee_assign, vop_alloc, vcallee_alloc, vop_load, vcallee_load, vop_store, vcallee_store, vop_indexAddr, vcallee_indexAddr, strip_pv, strip_ptr, strip_ip, strip_agg, optV_none, ev_tmp, put_some, put_none, at_mk, fits_some, fits_none, ↓look_cons, ↓vlook_t, ↓vlook_f, guard_none, ↓vrun_nil, ↓code_skip, ↓code_region, ↓code_draw, ↓code_seq, ↓code_block, ↓onNormal_normal, load_ip, vldp_agg, store_ptr, vst_agg, blk_zero, blk_succ, set_zero, set_succ, alloc_eq, val1_some, allOne_nil, allOne_cons, one_pv, iaddr_sl, vias_some, evG_eq, ↓vrun_cons, ↓run1_some, ↓runG_true, ↓run2_none, ↓run3_some, at_hp, List.map_nil, V.splice, List.length_cons, List.length_nil, List.map_cons, List.map_nil, List.cons_append, List.nil_append, List.append_nil, List.take_succ_cons, List.take_zero, List.take_nil, List.drop_succ_cons, List.drop_nil, Option.map_some, ↓reduceIte, Nat.reduceAdd, Nat.reduceLT, Nat.reduceBEq, Int.reduceLT, Int.reduceAdd, Int.reduceBEq, Int.toNat_natCast, Nat.zero_add, true_and, and_self, Bool.true_and, Bool.and_self, beq_self_eq_true, Nat.le_refl, Try.velem26, Try.vt73, Try.vzero73, dec_t, hg]
          refine vdraw (by kernel_rfl) (by kernel_rfl) ?_
          simp (config := { maxSteps := 2000000 }) (implicitDefEqProofs := false) (disch := first | omega | assumption) only [vop_move, vcallee_move, okKind_move, foot_move, vop_assign, vcallee_assign, okKind_assign, foot_assign, vop_pick, vcallee_pick, okKind_pick, foot_pick, vop_load, vcallee_load, okKind_load, vop_binOp, vcallee_binOp, okKind_binOp, foot_binOp, vop_fieldAddr, vcallee_fieldAddr, okKind_fieldAddr, foot_fieldAddr, foot_load, ptrNo_ptr, bin2_tmp, bin2_int, vpick_bool, strip_pv, strip_ptr, strip_tup, strip_opt, vstr_true, optV_none, optV_some, pickV_bool, ev_tmp, ev_const, ofConst_int, ofConst_bool, put_some, at_mk, fits_some, ↓look_cons, ↓vlook_t, ↓vlook_f, guard_none, guard_some, vgof_bool, vgof_skip, ↓vrun_nil, ↓vdr_nil, ↓code_region, ↓code_seq, ↓code_ret, ↓onNormal_normal, ↓onNormal_ret, ↓onBlock_ret, frz_pv, frzHeap_zero, res_one, vres_tmp, load_ptr, vld_one, blk_zero, blk_succ, faddr_ptr, vfap_some, bin_int, int_lss, int_geq, okc_nil, okc_none, okc_other, okc_one, evG_eq, ↓vrun_cons, ↓run1_some, ↓runG_true, ↓run2_none, ↓run3_some, ↓vdr_cons, ↓dr1_some, ↓drG_true, ↓drG_false, ↓dr2_none, ↓dr3_some, ↓code_cond, ↓vtest_bool, ↓vbr_true, ↓vpost_ret, vfin_some, vfin2_some, at_hp, pickV_t, List.getElem?_cons_zero, List.getElem?_cons_succ, List.cons_append, List.nil_append, List.any_nil, List.any_cons, Option.map_some, Option.bind_some, ↓reduceIte, reduceCtorEq, Nat.reduceAdd, Nat.reduceLT, Nat.reduceBEq, Int.reduceLT, Int.reduceAdd, Int.reduceBEq, Nat.zero_add, Nat.add_zero, decide_false, and_true, and_self, and_false, or_true, or_false, or_self, Bool.not_true, Bool.not_false, Bool.or_true, Bool.or_false, Bool.and_true, Bool.and_false, Bool.or_self, Bool.and_self, b_beq_f, Bool.cond_self, beq_self_eq_true, Try.vt3, Try.vfield29x0, Try.vfield73x0, dec_t, Ret, DV.nums, d1, d2]
        by_cases d4 : pg ∈ bad
        case neg =>
          rw [hfail (by rw [hchk]; simp [d4])]
          simp (config := { maxSteps := 2000000 }) (implicitDefEqProofs := false) (disch := first | omega | assumption | (simp only [List.length_cons, List.length_nil, Nat.zero_add, Nat.reduceAdd]; done) | fail) only [vop_move, vcallee_move, vop_assign, vcallee_assign, vop_alloc, vcallee_alloc, vop_load, vcallee_load, vop_store, vcallee_store, vop_indexAddr, vcallee_indexAddr, strip_pv, strip_ptr, strip_ip, strip_agg, optV_none, ev_tmp, put_some, put_none, at_mk, fits_some, fits_none, ↓look_cons, ↓vlook_t, ↓vlook_f, guard_none, ↓vrun_nil, ↓code_skip, ↓code_region, ↓code_draw, ↓code_seq, ↓code_block, ↓onNormal_normal, load_ip, vldp_agg, store_ptr, vst_agg, blk_zero, blk_succ, set_zero, set_succ, alloc_eq, val1_some, allOne_nil, allOne_cons, one_pv, iaddr_sl, vias_some, evG_eq, ↓vrun_cons, ↓run1_some, ↓runG_true, ↓run2_none, ↓run3_some, at_hp, List.map_nil, V.splice, List.length_cons, List.length_nil, List.map_cons, List.map_nil, List.cons_append, List.nil_append, List.append_nil, List.take_succ_cons, List.take_zero, List.take_nil, List.drop_succ_cons, List.drop_nil, Option.map_some, ↓reduceIte, Nat.reduceAdd, Nat.reduceLT, Nat.reduceBEq, Int.reduceLT, Int.reduceAdd, Int.reduceBEq, Int.toNat_natCast, Nat.zero_add, true_and, and_self, Bool.true_and, Bool.and_self, beq_self_eq_true, Nat.le_refl, Try.velem26, Try.vt73, Try.vzero73, dec_t, hg]
          refine vdraw (by kernel_rfl) (by kernel_rfl) ?_
          simp (config := { maxSteps := 2000000 }) (implicitDefEqProofs := false) (disch := first | omega | assumption) only [vop_move, vcallee_move, okKind_move, foot_move, vop_pick, vcallee_pick, okKind_pick, foot_pick, vop_load, vcallee_load, okKind_load, vop_binOp, vcallee_binOp, okKind_binOp, foot_binOp, vop_fieldAddr, vcallee_fieldAddr, okKind_fieldAddr, foot_fieldAddr, foot_load, vcallee_value, vcal_fn, ptrNo_ptr, bin2_tmp, bin2_int, vpick_bool, strip_pv, strip_ptr, strip_tup, strip_fn, strip_opt, vstr_true, optV_none, optV_some, pickV_bool, ev_tmp, ev_const, ev_func, ofConst_int, ofConst_bool, put_some, at_mk, fits_some, ↓look_cons, ↓vlook_t, ↓vlook_f, guard_none, guard_some, vgof_bool, vgof_opt, load_ptr, vld_one, vld_agg, blk_zero, blk_succ, faddr_ptr, vfap_some, bin_int, int_lss, int_gtr, int_geq, okc_nil, okc_none, okc_other, okc_one, evG_eq, ↓vdr_cons, ↓dr1_some, ↓drG_true, ↓drG_false, ↓dr2_none, ↓dr2_some, ↓dr3_some, at_hp, pickV_f, List.map_nil, List.getElem?_cons_zero, List.getElem?_cons_succ, List.length_cons, List.length_nil, List.map_cons, List.map_nil, List.cons_append, List.nil_append, List.append_nil, List.take_succ_cons, List.take_nil, List.drop_zero, List.any_nil, List.any_cons, Option.map_some, Option.bind_some, ↓reduceIte, reduceCtorEq, Nat.reduceAdd, Nat.reduceLT, Nat.reduceBEq, Int.reduceLT, Int.reduceAdd, Int.reduceBEq, Nat.zero_add, Nat.add_zero, decide_false, true_and, and_true, and_self, and_false, or_true, or_false, or_self, Bool.not_true, Bool.not_false, Bool.or_true, Bool.or_false, Bool.and_true, Bool.true_and, Bool.and_false, Bool.or_self, Bool.and_self, b_beq_t, cond_false, beq_self_eq_true, Nat.le_refl, Try.vt3, Try.vt29, Try.vfield29x0, Try.vfield73x0, dec_t, hs0, d1, d2]
          refine vdc_call (hb1) rfl rfl ?_
          simp (config := { maxSteps := 2000000 }) (implicitDefEqProofs := false) (disch := first | omega | assumption) only [vop_assign, vcallee_assign, okKind_assign, foot_assign, vop_pick, vcallee_pick, okKind_pick, foot_pick, vop_unOp, vcallee_unOp, okKind_unOp, foot_unOp, vpick_bool, strip_pv, strip_opt, vstr_true, optV_none, optV_some, pickV_bool, ev_tmp, ev_const, ofConst_bool, put_some, at_mk, fits_some, ↓look_cons, ↓vlook_t, ↓vlook_f, guard_none, guard_some, vgof_bool, ↓vrun_nil, ↓vdr_nil, ↓code_region, ↓code_seq, ↓code_ret, ↓onNormal_normal, ↓onNormal_ret, ↓onBlock_ret, frz_pv, frzHeap_zero, res_one, vres_tmp, un_not, okc_nil, okc_none, okc_other, evG_eq, ↓vrun_cons, ↓run1_some, ↓runG_true, ↓run2_none, ↓run3_some, ↓vdr_cons, ↓dr1_some, ↓drG_true, ↓dr2_none, ↓dr3_some, ↓drK_eq, ↓code_cond, ↓vtest_bool, ↓vbr_true, ↓vpost_ret, vfin_some, vfin2_some, at_hp, List.getElem?_cons_zero, List.getElem?_cons_succ, List.cons_append, List.nil_append, Option.map_some, Option.bind_some, Nat.reduceAdd, Nat.reduceLT, Nat.reduceBEq, Int.reduceLT, Int.reduceAdd, Int.reduceBEq, Nat.zero_add, decide_false, and_self, or_true, Bool.not_true, Bool.not_false, Bool.or_true, Bool.and_self, Bool.cond_self, beq_self_eq_true, dec_t, Ret, DV.nums, d4]
        simp (config := { maxSteps := 2000000 }) (implicitDefEqProofs := false) (disch := first | omega | assumption | (simp only [List.length_cons, List.length_nil, Nat.zero_add, Nat.reduceAdd]; done) | fail) only [vop_move, vcallee_move, vop_assign, vcallee_assign, vop_alloc, vcallee_alloc, vop_load, vcallee_load, vop_store, vcallee_store, vop_indexAddr, vcallee_indexAddr, strip_pv, strip_ptr, strip_ip, strip_agg, optV_none, ev_tmp, put_some, put_none, at_mk, fits_some, fits_none, ↓look_cons, ↓vlook_t, ↓vlook_f, guard_none, ↓vrun_nil, ↓code_skip, ↓code_region, ↓code_draw, ↓code_seq, ↓code_block, ↓onNormal_normal, load_ip, vldp_agg, store_ptr, vst_agg, blk_zero, blk_succ, set_zero, set_succ, alloc_eq, val1_some, allOne_nil, allOne_cons, one_pv, iaddr_sl, vias_some, evG_eq, ↓vrun_cons, ↓run1_some, ↓runG_true, ↓run2_none, ↓run3_some, at_hp, List.map_nil, V.splice, List.length_cons, List.length_nil, List.map_cons, List.map_nil, List.cons_append, List.nil_append, List.append_nil, List.take_succ_cons, List.take_zero, List.take_nil, List.drop_succ_cons, List.drop_nil, Option.map_some, ↓reduceIte, Nat.reduceAdd, Nat.reduceLT, Nat.reduceBEq, Int.reduceLT, Int.reduceAdd, Int.reduceBEq, Int.toNat_natCast, Nat.zero_add, true_and, and_self, Bool.true_and, Bool.and_self, beq_self_eq_true, Nat.le_refl, Try.velem26, Try.vt73, Try.vzero73, dec_t, hg]
        refine vdraw (by kernel_rfl) (by kernel_rfl) ?_
        simp (config := { maxSteps := 2000000 }) (implicitDefEqProofs := false) (disch := first | omega | assumption) only [vop_move, vcallee_move, okKind_move, foot_move, vop_pick, vcallee_pick, okKind_pick, foot_pick, vop_load, vcallee_load, okKind_load, vop_binOp, vcallee_binOp, okKind_binOp, foot_binOp, vop_fieldAddr, vcallee_fieldAddr, okKind_fieldAddr, foot_fieldAddr, foot_load, vcallee_value, vcal_fn, ptrNo_ptr, bin2_tmp, bin2_int, vpick_bool, strip_pv, strip_ptr, strip_tup, strip_fn, strip_opt, vstr_true, optV_none, optV_some, pickV_bool, ev_tmp, ev_const, ev_func, ofConst_int, ofConst_bool, put_some, at_mk, fits_some, ↓look_cons, ↓vlook_t, ↓vlook_f, guard_none, guard_some, vgof_bool, vgof_opt, load_ptr, vld_one, vld_agg, blk_zero, blk_succ, faddr_ptr, vfap_some, bin_int, int_lss, int_gtr, int_geq, okc_nil, okc_none, okc_other, okc_one, evG_eq, ↓vdr_cons, ↓dr1_some, ↓drG_true, ↓drG_false, ↓dr2_none, ↓dr2_some, ↓dr3_some, at_hp, pickV_f, List.map_nil, List.getElem?_cons_zero, List.getElem?_cons_succ, List.length_cons, List.length_nil, List.map_cons, List.map_nil, List.cons_append, List.nil_append, List.append_nil, List.take_succ_cons, List.take_nil, List.drop_zero, List.any_nil, List.any_cons, Option.map_some, Option.bind_some, ↓reduceIte, reduceCtorEq, Nat.reduceAdd, Nat.reduceLT, Nat.reduceBEq, Int.reduceLT, Int.reduceAdd, Int.reduceBEq, Nat.zero_add, Nat.add_zero, decide_false, true_and, and_true, and_self, and_false, or_true, or_false, or_self, Bool.not_true, Bool.not_false, Bool.or_true, Bool.or_false, Bool.and_true, Bool.true_and, Bool.and_false, Bool.or_self, Bool.and_self, b_beq_t, cond_false, beq_self_eq_true, Nat.le_refl, Try.vt3, Try.vt29, Try.vfield29x0, Try.vfield73x0, dec_t, hs0, d1, d2]
        refine vdc_call (hb1) rfl rfl ?_
        have hnin : ¬ (0 ≤ ad ∧ ad < 64) → viap (some (some 64, 4, 1)) 1 0 ad = none := fun h => viap_none h
        by_cases d5 : ad < pages
        · rw [hfail (by rw [hchk]; simp [show ¬ pages ≤ ad by omega])]
          by_cases hin : 0 ≤ ad ∧ ad < 64
          · have hug := usedL_get u ad.toNat (by omega)
            obtain ⟨hin1, hin2⟩ := hin
            simp (config := { maxSteps := 2000000 }) (implicitDefEqProofs := false) (disch := first | omega | assumption) only [vop_move, vcallee_move, vop_assign, vcallee_assign, okKind_assign, foot_assign, vop_pick, vcallee_pick, okKind_pick, foot_pick, vop_load, vcallee_load, vop_binOp, vcallee_binOp, vop_unOp, vcallee_unOp, okKind_unOp, foot_unOp, vop_fieldAddr, vcallee_fieldAddr, bin2_tmp, vpick_bool, strip_pv, strip_ptr, strip_tup, strip_opt, vstr_true, optV_none, optV_some, pickV_bool, ev_tmp, ev_const, ofConst_bool, put_some, at_mk, fits_some, ↓look_cons, ↓vlook_t, ↓vlook_f, guard_none, guard_some, vgof_bool, ↓vrun_nil, ↓vdr_nil, ↓code_region, ↓code_seq, ↓code_ret, ↓onNormal_normal, ↓onNormal_ret, ↓onBlock_ret, frz_pv, frzHeap_zero, res_one, vres_tmp, load_ptr, vld_one, blk_zero, blk_succ, faddr_ptr, vfap_some, bin_int, int_lss, un_not, okc_nil, okc_none, okc_other, evG_eq, ↓vrun_cons, ↓run1_some, ↓runG_true, ↓runG_false, ↓run2_none, ↓run3_some, ↓vdr_cons, ↓dr1_some, ↓drG_true, ↓dr2_none, ↓dr3_some, ↓drK_eq, ↓code_cond, ↓vtest_bool, ↓vbr_true, ↓vbr_false, ↓vpost_ret, vfin_some, vfin2_some, at_hp, pickV_t, List.getElem?_cons_zero, List.getElem?_cons_succ, List.cons_append, List.nil_append, Option.map_some, Option.bind_some, ↓reduceIte, reduceCtorEq, Nat.reduceAdd, Nat.reduceLT, Nat.reduceBEq, Int.reduceLT, Int.reduceAdd, Int.reduceBEq, Nat.zero_add, Nat.add_zero, and_self, or_true, Bool.not_true, Bool.not_false, Bool.or_true, Bool.and_self, b_beq_f, cond_false, beq_self_eq_true, Try.vt3, Try.vfield29x0, Try.vfield73x1, dec_t, Ret, DV.nums, d4, d5]
          · have hnn := hnin hin
            simp (config := { maxSteps := 2000000 }) (implicitDefEqProofs := false) (disch := first | omega | assumption) only [vop_move, vcallee_move, vop_assign, vcallee_assign, okKind_assign, foot_assign, vop_pick, vcallee_pick, okKind_pick, foot_pick, vop_load, vcallee_load, vop_binOp, vcallee_binOp, vop_unOp, vcallee_unOp, okKind_unOp, foot_unOp, vop_fieldAddr, vcallee_fieldAddr, bin2_tmp, vpick_bool, strip_pv, strip_ptr, strip_tup, strip_opt, vstr_true, optV_none, optV_some, pickV_bool, ev_tmp, ev_const, ofConst_bool, put_some, at_mk, fits_some, ↓look_cons, ↓vlook_t, ↓vlook_f, guard_none, guard_some, vgof_bool, ↓vrun_nil, ↓vdr_nil, ↓code_region, ↓code_seq, ↓code_ret, ↓onNormal_normal, ↓onNormal_ret, ↓onBlock_ret, frz_pv, frzHeap_zero, res_one, vres_tmp, load_ptr, vld_one, blk_zero, blk_succ, faddr_ptr, vfap_some, bin_int, int_lss, un_not, okc_nil, okc_none, okc_other, evG_eq, ↓vrun_cons, ↓run1_some, ↓runG_true, ↓runG_false, ↓run2_none, ↓run3_some, ↓vdr_cons, ↓dr1_some, ↓drG_true, ↓dr2_none, ↓dr3_some, ↓drK_eq, ↓code_cond, ↓vtest_bool, ↓vbr_true, ↓vbr_false, ↓vpost_ret, vfin_some, vfin2_some, at_hp, pickV_t, List.getElem?_cons_zero, List.getElem?_cons_succ, List.cons_append, List.nil_append, Option.map_some, Option.bind_some, ↓reduceIte, reduceCtorEq, Nat.reduceAdd, Nat.reduceLT, Nat.reduceBEq, Int.reduceLT, Int.reduceAdd, Int.reduceBEq, Nat.zero_add, Nat.add_zero, and_self, or_true, Bool.not_true, Bool.not_false, Bool.or_true, Bool.and_self, b_beq_f, cond_false, beq_self_eq_true, Try.vt3, Try.vfield29x0, Try.vfield73x1, dec_t, Ret, DV.nums, d4, d5]
        by_cases d6 : pages + spares ≤ ad
        · rw [hfail (by rw [hchk]; simp [show ¬ ad < pages + spares by omega])]
          by_cases hin : 0 ≤ ad ∧ ad < 64
          · have hug := usedL_get u ad.toNat (by omega)
            obtain ⟨hin1, hin2⟩ := hin
            simp (config := { maxSteps := 2000000 }) (implicitDefEqProofs := false) (disch := first | omega | assumption) only [vop_move, vcallee_move, vop_assign, vcallee_assign, okKind_assign, foot_assign, vop_pick, vcallee_pick, okKind_pick, foot_pick, vop_load, vcallee_load, vop_binOp, vcallee_binOp, vop_unOp, vcallee_unOp, okKind_unOp, foot_unOp, vop_fieldAddr, vcallee_fieldAddr, bin2_tmp, vpick_bool, strip_pv, strip_ptr, strip_tup, strip_opt, vstr_true, optV_none, optV_some, pickV_bool, ev_tmp, ev_const, ofConst_bool, put_some, at_mk, fits_some, ↓look_cons, ↓vlook_t, ↓vlook_f, guard_none, guard_some, vgof_bool, ↓vrun_nil, ↓vdr_nil, ↓code_region, ↓code_seq, ↓code_ret, ↓onNormal_normal, ↓onNormal_ret, ↓onBlock_ret, frz_pv, frzHeap_zero, res_one, vres_tmp, load_ptr, vld_one, blk_zero, blk_succ, faddr_ptr, vfap_some, bin_int, int_add, int_lss, int_geq, un_not, okc_nil, okc_none, okc_other, evG_eq, ↓vrun_cons, ↓run1_some, ↓runG_true, ↓runG_false, ↓run2_none, ↓run3_some, ↓vdr_cons, ↓dr1_some, ↓drG_true, ↓dr2_none, ↓dr3_some, ↓drK_eq, ↓code_cond, ↓vtest_bool, ↓vbr_true, ↓vbr_false, ↓vpost_ret, vfin_some, vfin2_some, at_hp, pickV_t, List.getElem?_cons_zero, List.getElem?_cons_succ, List.cons_append, List.nil_append, Option.map_some, Option.bind_some, ↓reduceIte, reduceCtorEq, Nat.reduceAdd, Nat.reduceLT, Nat.reduceBEq, Int.reduceLT, Int.reduceAdd, Int.reduceBEq, Nat.zero_add, Nat.add_zero, decide_false, and_self, or_true, Bool.not_true, Bool.not_false, Bool.or_true, Bool.and_self, b_beq_f, cond_false, Bool.cond_self, beq_self_eq_true, Try.vt3, Try.vfield29x0, Try.vfield29x1, Try.vfield73x1, wrap_i64_in, dec_t, Ret, DV.nums, d4, d5, d6]
          · have hnn := hnin hin
            simp (config := { maxSteps := 2000000 }) (implicitDefEqProofs := false) (disch := first | omega | assumption) only [vop_move, vcallee_move, vop_assign, vcallee_assign, okKind_assign, foot_assign, vop_pick, vcallee_pick, okKind_pick, foot_pick, vop_load, vcallee_load, vop_binOp, vcallee_binOp, vop_unOp, vcallee_unOp, okKind_unOp, foot_unOp, vop_fieldAddr, vcallee_fieldAddr, bin2_tmp, vpick_bool, strip_pv, strip_ptr, strip_tup, strip_opt, vstr_true, optV_none, optV_some, pickV_bool, ev_tmp, ev_const, ofConst_bool, put_some, at_mk, fits_some, ↓look_cons, ↓vlook_t, ↓vlook_f, guard_none, guard_some, vgof_bool, ↓vrun_nil, ↓vdr_nil, ↓code_region, ↓code_seq, ↓code_ret, ↓onNormal_normal, ↓onNormal_ret, ↓onBlock_ret, frz_pv, frzHeap_zero, res_one, vres_tmp, load_ptr, vld_one, blk_zero, blk_succ, faddr_ptr, vfap_some, bin_int, int_add, int_lss, int_geq, un_not, okc_nil, okc_none, okc_other, evG_eq, ↓vrun_cons, ↓run1_some, ↓runG_true, ↓runG_false, ↓run2_none, ↓run3_some, ↓vdr_cons, ↓dr1_some, ↓drG_true, ↓dr2_none, ↓dr3_some, ↓drK_eq, ↓code_cond, ↓vtest_bool, ↓vbr_true, ↓vbr_false, ↓vpost_ret, vfin_some, vfin2_some, at_hp, pickV_t, List.getElem?_cons_zero, List.getElem?_cons_succ, List.cons_append, List.nil_append, Option.map_some, Option.bind_some, ↓reduceIte, reduceCtorEq, Nat.reduceAdd, Nat.reduceLT, Nat.reduceBEq, Int.reduceLT, Int.reduceAdd, Int.reduceBEq, Nat.zero_add, Nat.add_zero, decide_false, and_self, or_true, Bool.not_true, Bool.not_false, Bool.or_true, Bool.and_self, b_beq_f, cond_false, Bool.cond_self, beq_self_eq_true, Try.vt3, Try.vfield29x0, Try.vfield29x1, Try.vfield73x1, wrap_i64_in, dec_t, Ret, DV.nums, d4, d5, d6]
        have hin1 : 0 ≤ ad := by omega
        have hin2 : ad < 64 := by omega
        have hug := usedL_get u ad.toNat (by omega)
        have hus := usedL_set u ad.toNat
        rw [show ((ad.toNat : Nat) : Int) = ad by omega] at hug hus
        by_cases d7 : ad ∈ bad
        · rw [hfail (by rw [hchk]; simp [d7])]
          simp (config := { maxSteps := 2000000 }) (implicitDefEqProofs := false) (disch := first | omega | assumption) only [vop_move, vcallee_move, vop_assign, vcallee_assign, okKind_assign, foot_assign, vop_pick, vcallee_pick, okKind_pick, foot_pick, vop_load, vcallee_load, vop_binOp, vcallee_binOp, vop_unOp, vcallee_unOp, okKind_unOp, foot_unOp, vop_fieldAddr, vcallee_fieldAddr, vcallee_value, vcal_fn, bin2_tmp, vpick_bool, strip_pv, strip_ptr, strip_fn, strip_opt, vstr_true, optV_none, optV_some, pickV_bool, ev_tmp, ev_const, ev_func, ofConst_bool, put_some, at_mk, fits_some, ↓look_cons, ↓vlook_t, ↓vlook_f, guard_none, guard_some, vgof_bool, ↓vdr_nil, ↓code_region, ↓code_seq, ↓onNormal_normal, load_ptr, vld_one, vld_agg, blk_zero, blk_succ, faddr_ptr, vfap_some, bin_int, int_add, int_lss, int_geq, un_not, okc_nil, okc_none, okc_other, evG_eq, ↓vrun_cons, ↓run1_some, ↓runG_true, ↓run2_none, ↓run2_some, ↓run3_some, ↓vdr_cons, ↓dr1_some, ↓drG_true, ↓dr2_none, ↓dr3_some, ↓drK_eq, ↓code_cond, ↓vtest_bool, ↓vbr_false, at_hp, List.map_nil, List.getElem?_cons_zero, List.getElem?_cons_succ, List.length_cons, List.length_nil, List.map_cons, List.map_nil, List.cons_append, List.nil_append, List.append_nil, List.take_succ_cons, List.take_nil, List.drop_zero, Option.map_some, Option.bind_some, ↓reduceIte, reduceCtorEq, Nat.reduceAdd, Nat.reduceLT, Nat.reduceBEq, Int.reduceLT, Int.reduceAdd, Int.reduceBEq, Nat.zero_add, Nat.add_zero, decide_false, true_and, or_true, Bool.not_true, Bool.not_false, Bool.or_true, Bool.true_and, cond_false, beq_self_eq_true, Nat.le_refl, Try.vt3, Try.vt29, Try.vfield29x0, Try.vfield29x1, Try.vfield73x1, wrap_i64_in, dec_t, d4, d5, d6]
          refine vc_pure (hb2) rfl ?_
          simp (config := { maxSteps := 2000000 }) (implicitDefEqProofs := false) (disch := first | omega | assumption) only [vop_move, vcallee_move, vop_assign, vcallee_assign, vop_pick, vcallee_pick, vpick_bool, strip_pv, strip_tup, strip_opt, vstr_true, optV_none, optV_some, pickV_bool, ev_tmp, ev_const, ofConst_bool, put_some, at_mk, fits_some, ↓look_cons, ↓vlook_t, ↓vlook_f, guard_none, guard_some, vgof_bool, ↓vrun_nil, ↓code_region, ↓code_seq, ↓code_ret, ↓onNormal_normal, ↓onNormal_ret, ↓onBlock_ret, frz_pv, frzHeap_zero, res_one, vres_tmp, evG_eq, ↓vrun_cons, ↓run1_some, ↓runG_true, ↓runG_false, ↓run2_none, ↓run3_some, ↓runK_eq, ↓code_cond, ↓vtest_bool, ↓vbr_true, ↓vpost_ret, vfin_some, vfin2_some, at_hp, pickV_t, List.getElem?_cons_zero, List.getElem?_cons_succ, Option.map_some, Option.bind_some, Nat.reduceLT, Nat.reduceBEq, Int.reduceLT, Int.reduceBEq, and_self, or_true, Bool.not_true, Bool.not_false, Bool.or_true, Bool.and_self, b_beq_f, Bool.cond_self, beq_self_eq_true, dec_t, Ret, DV.nums, d7]
        by_cases d8 : ad ∈ u
        · rw [hfail (by rw [hchk]; simp [d8])]
          simp (config := { maxSteps := 2000000 }) (implicitDefEqProofs := false) (disch := first | omega | assumption) only [vop_move, vcallee_move, vop_assign, vcallee_assign, okKind_assign, foot_assign, vop_pick, vcallee_pick, okKind_pick, foot_pick, vop_load, vcallee_load, vop_binOp, vcallee_binOp, vop_unOp, vcallee_unOp, okKind_unOp, foot_unOp, vop_fieldAddr, vcallee_fieldAddr, vcallee_value, vcal_fn, bin2_tmp, vpick_bool, strip_pv, strip_ptr, strip_fn, strip_opt, vstr_true, optV_none, optV_some, pickV_bool, ev_tmp, ev_const, ev_func, ofConst_bool, put_some, at_mk, fits_some, ↓look_cons, ↓vlook_t, ↓vlook_f, guard_none, guard_some, vgof_bool, ↓vdr_nil, ↓code_region, ↓code_seq, ↓onNormal_normal, load_ptr, vld_one, vld_agg, blk_zero, blk_succ, faddr_ptr, vfap_some, bin_int, int_add, int_lss, int_geq, un_not, okc_nil, okc_none, okc_other, evG_eq, ↓vrun_cons, ↓run1_some, ↓runG_true, ↓run2_none, ↓run2_some, ↓run3_some, ↓vdr_cons, ↓dr1_some, ↓drG_true, ↓dr2_none, ↓dr3_some, ↓drK_eq, ↓code_cond, ↓vtest_bool, ↓vbr_false, at_hp, List.map_nil, List.getElem?_cons_zero, List.getElem?_cons_succ, List.length_cons, List.length_nil, List.map_cons, List.map_nil, List.cons_append, List.nil_append, List.append_nil, List.take_succ_cons, List.take_nil, List.drop_zero, Option.map_some, Option.bind_some, ↓reduceIte, reduceCtorEq, Nat.reduceAdd, Nat.reduceLT, Nat.reduceBEq, Int.reduceLT, Int.reduceAdd, Int.reduceBEq, Nat.zero_add, Nat.add_zero, decide_false, true_and, or_true, Bool.not_true, Bool.not_false, Bool.or_true, Bool.true_and, cond_false, beq_self_eq_true, Nat.le_refl, Try.vt3, Try.vt29, Try.vfield29x0, Try.vfield29x1, Try.vfield73x1, wrap_i64_in, dec_t, d4, d5, d6]
          refine vc_pure (hb2) rfl ?_
          simp (config := { maxSteps := 2000000 }) (implicitDefEqProofs := false) (disch := first | omega | assumption) only [vop_move, vcallee_move, vop_assign, vcallee_assign, vop_pick, vcallee_pick, vop_load, vcallee_load, vop_fieldAddr, vcallee_fieldAddr, vop_indexAddr, vcallee_indexAddr, vpick_bool, strip_pv, strip_ptr, strip_opt, vstr_true, optV_none, optV_some, pickV_bool, ev_tmp, ev_const, ofConst_bool, put_some, at_mk, fits_some, ↓look_cons, ↓vlook_t, ↓vlook_f, guard_none, guard_some, vgof_bool, ↓vrun_nil, ↓code_region, ↓code_seq, ↓code_ret, ↓onNormal_normal, ↓onNormal_ret, ↓onBlock_ret, frz_pv, frzHeap_zero, res_one, vres_tmp, load_ptr, vld_one, blk_zero, blk_succ, faddr_ptr, vfap_some, iaddr_ptr, viap_some, evG_eq, ↓vrun_cons, ↓run1_some, ↓runG_true, ↓run2_none, ↓run3_some, ↓runK_eq, ↓code_cond, ↓vtest_bool, ↓vbr_true, ↓vpost_ret, vfin_some, vfin2_some, at_hp, List.getElem?_cons_zero, List.getElem?_cons_succ, Option.map_some, Option.bind_some, ↓reduceIte, reduceCtorEq, Nat.reduceLT, Nat.reduceBEq, Int.reduceLT, Int.reduceBEq, Nat.zero_add, Nat.mul_one, decide_false, and_self, or_true, Bool.not_true, Bool.not_false, Bool.or_true, Bool.and_self, cond_false, Bool.cond_self, beq_self_eq_true, Try.vt3, Try.vt4, Try.vfield73x1, Try.velem75, dec_t, Ret, DV.nums, hug, d7, d8]
        obtain ⟨t, ht1⟩ := step (by rw [hchk]; simp [c0, d4, d7, d8]; omega)
        have hadn : ad.toNat < 64 := by omega
        simp (config := { maxSteps := 2000000 }) (implicitDefEqProofs := false) (disch := first | omega | assumption) only [vop_move, vcallee_move, vop_assign, vcallee_assign, okKind_assign, foot_assign, vop_pick, vcallee_pick, okKind_pick, foot_pick, vop_load, vcallee_load, vop_binOp, vcallee_binOp, vop_unOp, vcallee_unOp, okKind_unOp, foot_unOp, vop_fieldAddr, vcallee_fieldAddr, vcallee_value, vcal_fn, bin2_tmp, vpick_bool, strip_pv, strip_ptr, strip_fn, strip_opt, vstr_true, optV_none, optV_some, pickV_bool, ev_tmp, ev_const, ev_func, ofConst_bool, put_some, at_mk, fits_some, ↓look_cons, ↓vlook_t, ↓vlook_f, guard_none, guard_some, vgof_bool, ↓vdr_nil, ↓code_region, ↓code_seq, ↓onNormal_normal, load_ptr, vld_one, vld_agg, blk_zero, blk_succ, faddr_ptr, vfap_some, bin_int, int_add, int_lss, int_geq, un_not, okc_nil, okc_none, okc_other, evG_eq, ↓vrun_cons, ↓run1_some, ↓runG_true, ↓run2_none, ↓run2_some, ↓run3_some, ↓vdr_cons, ↓dr1_some, ↓drG_true, ↓dr2_none, ↓dr3_some, ↓drK_eq, ↓code_cond, ↓vtest_bool, ↓vbr_false, at_hp, List.map_nil, List.getElem?_cons_zero, List.getElem?_cons_succ, List.length_cons, List.length_nil, List.map_cons, List.map_nil, List.cons_append, List.nil_append, List.append_nil, List.take_succ_cons, List.take_nil, List.drop_zero, Option.map_some, Option.bind_some, ↓reduceIte, reduceCtorEq, Nat.reduceAdd, Nat.reduceLT, Nat.reduceBEq, Int.reduceLT, Int.reduceAdd, Int.reduceBEq, Nat.zero_add, Nat.add_zero, decide_false, true_and, or_true, Bool.not_true, Bool.not_false, Bool.or_true, Bool.true_and, cond_false, beq_self_eq_true, Nat.le_refl, Try.vt3, Try.vt29, Try.vfield29x0, Try.vfield29x1, Try.vfield73x1, wrap_i64_in, dec_t, d4, d5, d6]
        refine vc_pure (hb2) rfl ?_
        simp (config := { maxSteps := 2000000 }) (implicitDefEqProofs := false) (disch := first | omega | assumption) only [vop_move, vcallee_move, vop_assign, vcallee_assign, vop_pick, vcallee_pick, vop_load, vcallee_load, vop_store, vcallee_store, vop_binOp, vcallee_binOp, vop_fieldAddr, vcallee_fieldAddr, vop_indexAddr, vcallee_indexAddr, bin2_int, vpick_bool, strip_pv, strip_ptr, strip_opt, vstr_true, optV_none, optV_some, pickV_bool, ev_tmp, ev_const, ofConst_int, ofConst_bool, put_some, put_none, at_mk, fits_some, fits_none, ↓look_cons, ↓vlook_t, ↓vlook_f, guard_none, guard_some, vgof_bool, ↓vrun_nil, ↓code_skip, ↓code_region, ↓onNormal_normal, ↓onBlock_normal, load_ptr, vld_one, store_ptr, vst_one, blk_zero, blk_succ, set_zero, set_succ, one_pv, faddr_ptr, vfap_some, iaddr_ptr, viap_some, bin_int, int_add, evG_eq, ↓vrun_cons, ↓run1_some, ↓runG_true, ↓run2_none, ↓run3_some, ↓runK_eq, ↓code_cond, ↓vtest_bool, ↓vbr_false, at_hp, List.getElem?_cons_zero, List.getElem?_cons_succ, Option.map_some, Option.bind_some, ↓reduceIte, reduceCtorEq, Nat.reduceLT, Nat.reduceBEq, Int.reduceLT, Int.reduceBEq, Nat.zero_add, Nat.mul_one, decide_false, true_and, and_self, or_true, Bool.not_true, Bool.not_false, Bool.or_true, Bool.true_and, Bool.and_self, cond_false, beq_self_eq_true, cellsB_len, Try.vt3, Try.vt4, Try.vfield73x1, Try.velem75, wrap_i64_in, dec_t, hug, d7, d8, cellsB_len, usedL_len, hadn, hus]
        refine ⟨t, by rw [ht1]; omega, ?_⟩
        rw [ht1, htk]
        exact (by refine gc_of (keep := [0, 1]) rfl rfl rfl (by decide) ?_ ?_ <;> (repeat' apply And.intro) <;> first | trivial | rfl | exact ⟨_, rfl, rfl, rfl, .inl ⟨rfl, rfl⟩⟩ | exact ⟨_, rfl, rfl, rfl, .inl ⟨cells_nums _ _ _, rfl⟩⟩ | exact ⟨_, rfl, rfl, rfl, .inl ⟨pvs_nums _ _, rfl⟩⟩ | exact ⟨_, rfl, rfl, rfl, .inr ⟨rfl, rfl⟩⟩)
      · have hs0 : (0 : Int) < (s2.i : Int) := by omega
        obtain ⟨q, hq⟩ : ∃ q, (places.getD (s2.i - 1) P0).pg = q := ⟨_, rfl⟩
        obtain ⟨q2, hq2⟩ : ∃ q2, (places.getD (s2.i - 1) P0).ad = q2 := ⟨_, rfl⟩
        have hidx : vias (some (none, 73, 2)) (fz encP places)[((s2.i : Int) - 1).toNat]? ((s2.i : Int) - 1) = some (.ip [.lit (.int .i64 q), .lit (.int .i64 q2)]) := by
          rw [← hq, ← hq2, show ((s2.i : Int) - 1).toNat = s2.i - 1 by omega, fz_at encP places (s2.i - 1) (by omega), List.getD_eq_getElem?_getD, List.getElem?_eq_getElem (by omega)]
          simp [vias, encP]; omega
        rw [hq] at hchk
        by_cases d1 : pg < 0
        · rw [hfail (by rw [hchk]; simp [show ¬ 0 ≤ pg by omega])]
          simp (config := { maxSteps := 2000000 }) (implicitDefEqProofs := false) (disch := first | omega | assumption | (simp only [List.length_cons, List.length_nil, Nat.zero_add, Nat.reduceAdd]; done) | fail) only [vop_move, vcallee_move, vop_assign, vcallee_assign, vop_alloc, vcallee_alloc, vop_load, vcallee_load, vop_store, vcallee_store, vop_indexAddr, vcallee_indexAddr, strip_pv, strip_ptr, strip_ip, strip_agg, optV_none, ev_tmp, put_some, put_none, at_mk, fits_some, fits_none, ↓look_cons, ↓vlook_t, ↓vlook_f, guard_none, ↓vrun_nil, ↓code_skip, ↓code_region, ↓code_draw, ↓code_seq, ↓code_block, ↓onNormal_normal, load_ip, vldp_agg, store_ptr, vst_agg, blk_zero, blk_succ, set_zero, set_succ, alloc_eq, val1_some, allOne_nil, allOne_cons, one_pv, iaddr_sl, vias_some, evG_eq, ↓vrun_cons, ↓run1_some, ↓runG_true, ↓run2_none, ↓run3_some, at_hp, List.map_nil, V.splice, List.length_cons, List.length_nil, List.map_cons, List.map_nil, List.cons_append, List.nil_append, List.append_nil, List.take_succ_cons, List.take_zero, List.take_nil, List.drop_succ_cons, List.drop_nil, Option.map_some, ↓reduceIte, Nat.reduceAdd, Nat.reduceLT, Nat.reduceBEq, Int.reduceLT, Int.reduceAdd, Int.reduceBEq, Int.toNat_natCast, Nat.zero_add, true_and, and_self, Bool.true_and, Bool.and_self, beq_self_eq_true, Nat.le_refl, Try.velem26, Try.vt73, Try.vzero73, dec_t, hg]
          refine vdraw (by kernel_rfl) (by kernel_rfl) ?_
          simp (config := { maxSteps := 2000000 }) (implicitDefEqProofs := false) (disch := first | omega | assumption) only [vop_move, vcallee_move, okKind_move, foot_move, vop_assign, vcallee_assign, okKind_assign, foot_assign, vop_pick, vcallee_pick, okKind_pick, foot_pick, vop_load, vcallee_load, okKind_load, vop_binOp, vcallee_binOp, okKind_binOp, foot_binOp, vop_fieldAddr, vcallee_fieldAddr, okKind_fieldAddr, foot_fieldAddr, foot_load, ptrNo_ptr, bin2_int, vpick_bool, strip_pv, strip_ptr, strip_tup, optV_none, ev_tmp, ev_const, ofConst_int, ofConst_bool, put_some, at_mk, fits_some, ↓look_cons, ↓vlook_t, ↓vlook_f, guard_none, guard_some, vgof_bool, vgof_skip, ↓vrun_nil, ↓vdr_nil, ↓code_region, ↓code_seq, ↓code_ret, ↓onNormal_normal, ↓onNormal_ret, ↓onBlock_ret, frz_pv, frzHeap_zero, res_one, vres_tmp, load_ptr, vld_one, blk_zero, blk_succ, faddr_ptr, vfap_some, bin_int, int_lss, okc_nil, okc_none, okc_other, evG_eq, ↓vrun_cons, ↓run1_some, ↓runG_true, ↓run2_none, ↓run3_some, ↓vdr_cons, ↓dr1_some, ↓drG_true, ↓drG_false, ↓dr2_none, ↓dr3_some, ↓code_cond, ↓vtest_bool, ↓vbr_true, ↓vpost_ret, vfin_some, vfin2_some, at_hp, pickV_t, List.getElem?_cons_zero, List.getElem?_cons_succ, List.cons_append, List.nil_append, Option.map_some, Option.bind_some, ↓reduceIte, reduceCtorEq, Nat.reduceAdd, Nat.reduceLT, Nat.reduceBEq, Int.reduceLT, Int.reduceAdd, Int.reduceBEq, Nat.zero_add, Nat.add_zero, and_self, Bool.not_true, Bool.and_self, b_beq_f, beq_self_eq_true, Try.vt3, Try.vfield73x0, dec_t, Ret, DV.nums, d1]
        by_cases d2 : pages ≤ pg
        · rw [hfail (by rw [hchk]; simp [show ¬ pg < pages by omega])]
          simp (config := { maxSteps := 2000000 }) (implicitDefEqProofs := false) (disch := first | omega | assumption | (simp only [List.length_cons, List.length_nil, Nat.zero_add, Nat.reduceAdd]; done) | fail) only [vop_move, vcallee_move, vop_assign, vcallee_assign, vop_alloc, vcallee_alloc, vop_load, vcallee_load, vop_store, vcallee_store, vop_indexAddr, vcallee_indexAddr, strip_pv, strip_ptr, strip_ip, strip_agg, optV_none, ev_tmp, put_some, put_none, at_mk, fits_some, fits_none, ↓look_cons, ↓vlook_t, ↓vlook_f, guard_none, ↓vrun_nil, ↓code_skip, ↓code_region, ↓code_draw, ↓code_seq, ↓code_block, ↓onNormal_normal, load_ip, vldp_agg, store_ptr, vst_agg, blk_zero, blk_succ, set_zero, set_succ, alloc_eq, val1_some, allOne_nil, allOne_cons, one_pv, iaddr_sl, vias_some, evG_eq, ↓vrun_cons, ↓run1_some, ↓runG_true, ↓run2_none, ↓run3_some, at_hp, List.map_nil, V.splice, List.length_cons, List.length_nil, List.map_cons, List.map_nil, List.cons_append, List.nil_append, List.append_nil, List.take_succ_cons, List.take_zero, List.take_nil, List.drop_succ_cons, List.drop_nil, Option.map_some, ↓reduceIte, Nat.reduceAdd, Nat.reduceLT, Nat.reduceBEq, Int.reduceLT, Int.reduceAdd, Int.reduceBEq, Int.toNat_natCast, Nat.zero_add, true_and, and_self, Bool.true_and, Bool.and_self, beq_self_eq_true, Nat.le_refl, Try.velem26, Try.vt73, Try.vzero73, dec_t, hg]
          refine vdraw (by kernel_rfl) (by kernel_rfl) ?_
          simp (config := { maxSteps := 2000000 }) (implicitDefEqProofs := false) (disch := first | omega | assumption) only [vop_move, vcallee_move, okKind_move, foot_move, vop_assign, vcallee_assign, okKind_assign, foot_assign, vop_pick, vcallee_pick, okKind_pick, foot_pick, vop_load, vcallee_load, okKind_load, vop_binOp, vcallee_binOp, okKind_binOp, foot_binOp, vop_fieldAddr, vcallee_fieldAddr, okKind_fieldAddr, foot_fieldAddr, foot_load, ptrNo_ptr, bin2_tmp, bin2_int, vpick_bool, strip_pv, strip_ptr, strip_tup, strip_opt, vstr_true, optV_none, optV_some, pickV_bool, ev_tmp, ev_const, ofConst_int, ofConst_bool, put_some, at_mk, fits_some, ↓look_cons, ↓vlook_t, ↓vlook_f, guard_none, guard_some, vgof_bool, vgof_skip, ↓vrun_nil, ↓vdr_nil, ↓code_region, ↓code_seq, ↓code_ret, ↓onNormal_normal, ↓onNormal_ret, ↓onBlock_ret, frz_pv, frzHeap_zero, res_one, vres_tmp, load_ptr, vld_one, blk_zero, blk_succ, faddr_ptr, vfap_some, bin_int, int_lss, int_geq, okc_nil, okc_none, okc_other, okc_one, evG_eq, ↓vrun_cons, ↓run1_some, ↓runG_true, ↓run2_none, ↓run3_some, ↓vdr_cons, ↓dr1_some, ↓drG_true, ↓drG_false, ↓dr2_none, ↓dr3_some, ↓code_cond, ↓vtest_bool, ↓vbr_true, ↓vpost_ret, vfin_some, vfin2_some, at_hp, pickV_t, List.getElem?_cons_zero, List.getElem?_cons_succ, List.cons_append, List.nil_append, List.any_nil, List.any_cons, Option.map_some, Option.bind_some, ↓reduceIte, reduceCtorEq, Nat.reduceAdd, Nat.reduceLT, Nat.reduceBEq, Int.reduceLT, Int.reduceAdd, Int.reduceBEq, Nat.zero_add, Nat.add_zero, decide_false, and_true, and_self, and_false, or_true, or_false, or_self, Bool.not_true, Bool.not_false, Bool.or_true, Bool.or_false, Bool.and_true, Bool.and_false, Bool.or_self, Bool.and_self, b_beq_f, Bool.cond_self, beq_self_eq_true, Try.vt3, Try.vfield29x0, Try.vfield73x0, dec_t, Ret, DV.nums, d1, d2]
        by_cases d3 : pg ≤ q
        · rw [hfail (by rw [hchk]; simp [c0]; omega)]
          simp (config := { maxSteps := 2000000 }) (implicitDefEqProofs := false) (disch := first | omega | assumption | (simp only [List.length_cons, List.length_nil, Nat.zero_add, Nat.reduceAdd]; done) | fail) only [vop_move, vcallee_move, vop_assign, vcallee_assign, vop_alloc, vcallee_alloc, vop_load, vcallee_load, vop_store, vcallee_store, vop_indexAddr, vcallee_indexAddr, strip_pv, strip_ptr, strip_ip, strip_agg, optV_none, ev_tmp, put_some, put_none, at_mk, fits_some, fits_none, ↓look_cons, ↓vlook_t, ↓vlook_f, guard_none, ↓vrun_nil, ↓code_skip, ↓code_region, ↓code_draw, ↓code_seq, ↓code_block, ↓onNormal_normal, load_ip, vldp_agg, store_ptr, vst_agg, blk_zero, blk_succ, set_zero, set_succ, alloc_eq, val1_some, allOne_nil, allOne_cons, one_pv, iaddr_sl, vias_some, evG_eq, ↓vrun_cons, ↓run1_some, ↓runG_true, ↓run2_none, ↓run3_some, at_hp, List.map_nil, V.splice, List.length_cons, List.length_nil, List.map_cons, List.map_nil, List.cons_append, List.nil_append, List.append_nil, List.take_succ_cons, List.take_zero, List.take_nil, List.drop_succ_cons, List.drop_nil, Option.map_some, ↓reduceIte, Nat.reduceAdd, Nat.reduceLT, Nat.reduceBEq, Int.reduceLT, Int.reduceAdd, Int.reduceBEq, Int.toNat_natCast, Nat.zero_add, true_and, and_self, Bool.true_and, Bool.and_self, beq_self_eq_true, Nat.le_refl, Try.velem26, Try.vt73, Try.vzero73, dec_t, hg]
          refine vdraw (by kernel_rfl) (by kernel_rfl) ?_
          simp (config := { maxSteps := 2000000 }) (implicitDefEqProofs := false) (disch := first | omega | assumption) only [vop_move, vcallee_move, okKind_move, foot_move, vop_assign, vcallee_assign, okKind_assign, foot_assign, vop_pick, vcallee_pick, okKind_pick, foot_pick, vop_load, vcallee_load, okKind_load, vop_binOp, vcallee_binOp, okKind_binOp, foot_binOp, vop_fieldAddr, vcallee_fieldAddr, okKind_fieldAddr, foot_fieldAddr, vop_indexAddr, vcallee_indexAddr, okKind_indexAddr, foot_indexAddr, foot_load, ptrNo_ptr, ptrNo_ip, bin2_tmp, bin2_int, vpick_bool, strip_pv, strip_ptr, strip_tup, strip_opt, vstr_true, optV_none, optV_some, pickV_bool, ev_tmp, ev_const, ofConst_int, ofConst_bool, put_some, at_mk, fits_some, ↓look_cons, ↓vlook_t, ↓vlook_f, guard_none, guard_some, vgof_bool, vgof_opt, ↓vrun_nil, ↓vdr_nil, ↓code_region, ↓code_seq, ↓code_ret, ↓onNormal_normal, ↓onNormal_ret, ↓onBlock_ret, frz_pv, frzHeap_zero, res_one, vres_tmp, load_ptr, load_ip, vld_one, vldp_one, blk_zero, blk_succ, faddr_ptr, vfap_some, faddr_ip, vfai_some, iaddr_sl, bin_int, int_sub, int_lss, int_gtr, int_geq, okc_nil, okc_none, okc_other, okc_one, evG_eq, ↓vrun_cons, ↓run1_some, ↓runG_true, ↓run2_none, ↓run3_some, ↓vdr_cons, ↓dr1_some, ↓drG_true, ↓drG_false, ↓dr2_none, ↓dr3_some, ↓code_cond, ↓vtest_bool, ↓vbr_true, ↓vpost_ret, vfin_some, vfin2_some, at_hp, pickV_t, List.getElem?_cons_zero, List.getElem?_cons_succ, List.cons_append, List.nil_append, List.drop_zero, List.any_nil, List.any_cons, Option.map_some, Option.bind_some, ↓reduceIte, reduceCtorEq, Nat.reduceAdd, Nat.reduceLT, Nat.reduceBEq, Int.reduceLT, Int.reduceAdd, Int.reduceBEq, Nat.zero_add, Nat.add_zero, decide_false, and_true, and_self, and_false, or_true, or_false, or_self, Bool.not_true, Bool.not_false, Bool.or_true, Bool.or_false, Bool.and_true, Bool.and_false, Bool.or_self, Bool.and_self, b_beq_f, cond_true, cond_false, Bool.cond_self, beq_self_eq_true, Try.vt3, Try.vt26, Try.velem26, Try.vfield29x0, Try.vfield29x2, Try.vfield73x0, wrap_i64_in, dec_t, Ret, DV.nums, hidx, hs0, d1, d2, d3]
        by_cases d4 : pg ∈ bad
        case neg =>
          rw [hfail (by rw [hchk]; simp [d4])]
          simp (config := { maxSteps := 2000000 }) (implicitDefEqProofs := false) (disch := first | omega | assumption | (simp only [List.length_cons, List.length_nil, Nat.zero_add, Nat.reduceAdd]; done) | fail) only [vop_move, vcallee_move, vop_assign, vcallee_assign, vop_alloc, vcallee_alloc, vop_load, vcallee_load, vop_store, vcallee_store, vop_indexAddr, vcallee_indexAddr, strip_pv, strip_ptr, strip_ip, strip_agg, optV_none, ev_tmp, put_some, put_none, at_mk, fits_some, fits_none, ↓look_cons, ↓vlook_t, ↓vlook_f, guard_none, ↓vrun_nil, ↓code_skip, ↓code_region, ↓code_draw, ↓code_seq, ↓code_block, ↓onNormal_normal, load_ip, vldp_agg, store_ptr, vst_agg, blk_zero, blk_succ, set_zero, set_succ, alloc_eq, val1_some, allOne_nil, allOne_cons, one_pv, iaddr_sl, vias_some, evG_eq, ↓vrun_cons, ↓run1_some, ↓runG_true, ↓run2_none, ↓run3_some, at_hp, List.map_nil, V.splice, List.length_cons, List.length_nil, List.map_cons, List.map_nil, List.cons_append, List.nil_append, List.append_nil, List.take_succ_cons, List.take_zero, List.take_nil, List.drop_succ_cons, List.drop_nil, Option.map_some, ↓reduceIte, Nat.reduceAdd, Nat.reduceLT, Nat.reduceBEq, Int.reduceLT, Int.reduceAdd, Int.reduceBEq, Int.toNat_natCast, Nat.zero_add, true_and, and_self, Bool.true_and, Bool.and_self, beq_self_eq_true, Nat.le_refl, Try.velem26, Try.vt73, Try.vzero73, dec_t, hg]
          refine vdraw (by kernel_rfl) (by kernel_rfl) ?_
          simp (config := { maxSteps := 2000000 }) (implicitDefEqProofs := false) (disch := first | omega | assumption) only [vop_move, vcallee_move, okKind_move, foot_move, vop_pick, vcallee_pick, okKind_pick, foot_pick, vop_load, vcallee_load, okKind_load, vop_binOp, vcallee_binOp, okKind_binOp, foot_binOp, vop_fieldAddr, vcallee_fieldAddr, okKind_fieldAddr, foot_fieldAddr, vop_indexAddr, vcallee_indexAddr, okKind_indexAddr, foot_indexAddr, foot_load, vcallee_value, vcal_fn, ptrNo_ptr, ptrNo_ip, bin2_tmp, bin2_int, vpick_bool, strip_pv, strip_ptr, strip_fn, strip_opt, vstr_true, optV_none, optV_some, pickV_bool, ev_tmp, ev_const, ev_func, ofConst_int, ofConst_bool, put_some, at_mk, fits_some, ↓look_cons, ↓vlook_t, ↓vlook_f, guard_none, guard_some, vgof_bool, vgof_opt, load_ptr, load_ip, vld_one, vld_agg, vldp_one, blk_zero, blk_succ, faddr_ptr, vfap_some, faddr_ip, vfai_some, iaddr_sl, bin_int, int_sub, int_lss, int_gtr, int_geq, okc_nil, okc_none, okc_other, okc_one, evG_eq, ↓vdr_cons, ↓dr1_some, ↓drG_true, ↓dr2_none, ↓dr2_some, ↓dr3_some, at_hp, List.map_nil, List.getElem?_cons_zero, List.getElem?_cons_succ, List.length_cons, List.length_nil, List.map_cons, List.map_nil, List.cons_append, List.nil_append, List.append_nil, List.take_succ_cons, List.take_nil, List.drop_zero, List.any_nil, List.any_cons, Option.map_some, Option.bind_some, ↓reduceIte, reduceCtorEq, Nat.reduceAdd, Nat.reduceLT, Nat.reduceBEq, Int.reduceLT, Int.reduceAdd, Int.reduceBEq, Nat.zero_add, Nat.add_zero, decide_false, true_and, and_true, and_self, and_false, or_true, or_false, or_self, Bool.not_true, Bool.not_false, Bool.or_true, Bool.or_false, Bool.and_true, Bool.true_and, Bool.and_false, Bool.or_self, Bool.and_self, cond_false, Bool.cond_self, beq_self_eq_true, Nat.le_refl, Try.vt3, Try.vt26, Try.velem26, Try.vt29, Try.vfield29x0, Try.vfield29x2, Try.vfield73x0, wrap_i64_in, dec_t, hidx, hs0, d1, d2, d3]
          refine vdc_call (hb1) rfl rfl ?_
          simp (config := { maxSteps := 2000000 }) (implicitDefEqProofs := false) (disch := first | omega | assumption) only [vop_assign, vcallee_assign, okKind_assign, foot_assign, vop_pick, vcallee_pick, okKind_pick, foot_pick, vop_unOp, vcallee_unOp, okKind_unOp, foot_unOp, vpick_bool, strip_pv, strip_opt, vstr_true, optV_none, optV_some, pickV_bool, ev_tmp, ev_const, ofConst_bool, put_some, at_mk, fits_some, ↓look_cons, ↓vlook_t, ↓vlook_f, guard_none, guard_some, vgof_bool, ↓vrun_nil, ↓vdr_nil, ↓code_region, ↓code_seq, ↓code_ret, ↓onNormal_normal, ↓onNormal_ret, ↓onBlock_ret, frz_pv, frzHeap_zero, res_one, vres_tmp, un_not, okc_nil, okc_none, okc_other, evG_eq, ↓vrun_cons, ↓run1_some, ↓runG_true, ↓run2_none, ↓run3_some, ↓vdr_cons, ↓dr1_some, ↓drG_true, ↓dr2_none, ↓dr3_some, ↓drK_eq, ↓code_cond, ↓vtest_bool, ↓vbr_true, ↓vpost_ret, vfin_some, vfin2_some, at_hp, List.getElem?_cons_zero, List.getElem?_cons_succ, List.cons_append, List.nil_append, Option.map_some, Option.bind_some, Nat.reduceAdd, Nat.reduceLT, Nat.reduceBEq, Int.reduceLT, Int.reduceAdd, Int.reduceBEq, Nat.zero_add, decide_false, and_self, or_true, Bool.not_true, Bool.not_false, Bool.or_true, Bool.and_self, Bool.cond_self, beq_self_eq_true, dec_t, Ret, DV.nums, d4]
        simp (config := { maxSteps := 2000000 }) (implicitDefEqProofs := false) (disch := first | omega | assumption | (simp only [List.length_cons, List.length_nil, Nat.zero_add, Nat.reduceAdd]; done) | fail) only [vop_move, vcallee_move, vop_assign, vcallee_assign, vop_alloc, vcallee_alloc, vop_load, vcallee_load, vop_store, vcallee_store, vop_indexAddr, vcallee_indexAddr, strip_pv, strip_ptr, strip_ip, strip_agg, optV_none, ev_tmp, put_some, put_none, at_mk, fits_some, fits_none, ↓look_cons, ↓vlook_t, ↓vlook_f, guard_none, ↓vrun_nil, ↓code_skip, ↓code_region, ↓code_draw, ↓code_seq, ↓code_block, ↓onNormal_normal, load_ip, vldp_agg, store_ptr, vst_agg, blk_zero, blk_succ, set_zero, set_succ, alloc_eq, val1_some, allOne_nil, allOne_cons, one_pv, iaddr_sl, vias_some, evG_eq, ↓vrun_cons, ↓run1_some, ↓runG_true, ↓run2_none, ↓run3_some, at_hp, List.map_nil, V.splice, List.length_cons, List.length_nil, List.map_cons, List.map_nil, List.cons_append, List.nil_append, List.append_nil, List.take_succ_cons, List.take_zero, List.take_nil, List.drop_succ_cons, List.drop_nil, Option.map_some, ↓reduceIte, Nat.reduceAdd, Nat.reduceLT, Nat.reduceBEq, Int.reduceLT, Int.reduceAdd, Int.reduceBEq, Int.toNat_natCast, Nat.zero_add, true_and, and_self, Bool.true_and, Bool.and_self, beq_self_eq_true, Nat.le_refl, Try.velem26, Try.vt73, Try.vzero73, dec_t, hg]
        refine vdraw (by kernel_rfl) (by kernel_rfl) ?_
        simp (config := { maxSteps := 2000000 }) (implicitDefEqProofs := false) (disch := first | omega | assumption) only [vop_move, vcallee_move, okKind_move, foot_move, vop_pick, vcallee_pick, okKind_pick, foot_pick, vop_load, vcallee_load, okKind_load, vop_binOp, vcallee_binOp, okKind_binOp, foot_binOp, vop_fieldAddr, vcallee_fieldAddr, okKind_fieldAddr, foot_fieldAddr, vop_indexAddr, vcallee_indexAddr, okKind_indexAddr, foot_indexAddr, foot_load, vcallee_value, vcal_fn, ptrNo_ptr, ptrNo_ip, bin2_tmp, bin2_int, vpick_bool, strip_pv, strip_ptr, strip_fn, strip_opt, vstr_true, optV_none, optV_some, pickV_bool, ev_tmp, ev_const, ev_func, ofConst_int, ofConst_bool, put_some, at_mk, fits_some, ↓look_cons, ↓vlook_t, ↓vlook_f, guard_none, guard_some, vgof_bool, vgof_opt, load_ptr, load_ip, vld_one, vld_agg, vldp_one, blk_zero, blk_succ, faddr_ptr, vfap_some, faddr_ip, vfai_some, iaddr_sl, bin_int, int_sub, int_lss, int_gtr, int_geq, okc_nil, okc_none, okc_other, okc_one, evG_eq, ↓vdr_cons, ↓dr1_some, ↓drG_true, ↓dr2_none, ↓dr2_some, ↓dr3_some, at_hp, List.map_nil, List.getElem?_cons_zero, List.getElem?_cons_succ, List.length_cons, List.length_nil, List.map_cons, List.map_nil, List.cons_append, List.nil_append, List.append_nil, List.take_succ_cons, List.take_nil, List.drop_zero, List.any_nil, List.any_cons, Option.map_some, Option.bind_some, ↓reduceIte, reduceCtorEq, Nat.reduceAdd, Nat.reduceLT, Nat.reduceBEq, Int.reduceLT, Int.reduceAdd, Int.reduceBEq, Nat.zero_add, Nat.add_zero, decide_false, true_and, and_true, and_self, and_false, or_true, or_false, or_self, Bool.not_true, Bool.not_false, Bool.or_true, Bool.or_false, Bool.and_true, Bool.true_and, Bool.and_false, Bool.or_self, Bool.and_self, cond_false, Bool.cond_self, beq_self_eq_true, Nat.le_refl, Try.vt3, Try.vt26, Try.velem26, Try.vt29, Try.vfield29x0, Try.vfield29x2, Try.vfield73x0, wrap_i64_in, dec_t, hidx, hs0, d1, d2, d3]
        refine vdc_call (hb1) rfl rfl ?_
        have hnin : ¬ (0 ≤ ad ∧ ad < 64) → viap (some (some 64, 4, 1)) 1 0 ad = none := fun h => viap_none h
        by_cases d5 : ad < pages
        · rw [hfail (by rw [hchk]; simp [show ¬ pages ≤ ad by omega])]
          by_cases hin : 0 ≤ ad ∧ ad < 64
          · have hug := usedL_get u ad.toNat (by omega)
            obtain ⟨hin1, hin2⟩ := hin
            simp (config := { maxSteps := 2000000 }) (implicitDefEqProofs := false) (disch := first | omega | assumption) only [vop_move, vcallee_move, vop_assign, vcallee_assign, okKind_assign, foot_assign, vop_pick, vcallee_pick, okKind_pick, foot_pick, vop_load, vcallee_load, vop_binOp, vcallee_binOp, vop_unOp, vcallee_unOp, okKind_unOp, foot_unOp, vop_fieldAddr, vcallee_fieldAddr, bin2_tmp, vpick_bool, strip_pv, strip_ptr, strip_tup, strip_opt, vstr_true, optV_none, optV_some, pickV_bool, ev_tmp, ev_const, ofConst_bool, put_some, at_mk, fits_some, ↓look_cons, ↓vlook_t, ↓vlook_f, guard_none, guard_some, vgof_bool, ↓vrun_nil, ↓vdr_nil, ↓code_region, ↓code_seq, ↓code_ret, ↓onNormal_normal, ↓onNormal_ret, ↓onBlock_ret, frz_pv, frzHeap_zero, res_one, vres_tmp, load_ptr, vld_one, blk_zero, blk_succ, faddr_ptr, vfap_some, bin_int, int_lss, un_not, okc_nil, okc_none, okc_other, evG_eq, ↓vrun_cons, ↓run1_some, ↓runG_true, ↓runG_false, ↓run2_none, ↓run3_some, ↓vdr_cons, ↓dr1_some, ↓drG_true, ↓dr2_none, ↓dr3_some, ↓drK_eq, ↓code_cond, ↓vtest_bool, ↓vbr_true, ↓vbr_false, ↓vpost_ret, vfin_some, vfin2_some, at_hp, pickV_t, List.getElem?_cons_zero, List.getElem?_cons_succ, List.cons_append, List.nil_append, Option.map_some, Option.bind_some, ↓reduceIte, reduceCtorEq, Nat.reduceAdd, Nat.reduceLT, Nat.reduceBEq, Int.reduceLT, Int.reduceAdd, Int.reduceBEq, Nat.zero_add, Nat.add_zero, and_self, or_true, Bool.not_true, Bool.not_false, Bool.or_true, Bool.and_self, b_beq_f, cond_false, beq_self_eq_true, Try.vt3, Try.vfield29x0, Try.vfield73x1, dec_t, Ret, DV.nums, d4, d5]
          · have hnn := hnin hin
            simp (config := { maxSteps := 2000000 }) (implicitDefEqProofs := false) (disch := first | omega | assumption) only [vop_move, vcallee_move, vop_assign, vcallee_assign, okKind_assign, foot_assign, vop_pick, vcallee_pick, okKind_pick, foot_pick, vop_load, vcallee_load, vop_binOp, vcallee_binOp, vop_unOp, vcallee_unOp, okKind_unOp, foot_unOp, vop_fieldAddr, vcallee_fieldAddr, bin2_tmp, vpick_bool, strip_pv, strip_ptr, strip_tup, strip_opt, vstr_true, optV_none, optV_some, pickV_bool, ev_tmp, ev_const, ofConst_bool, put_some, at_mk, fits_some, ↓look_cons, ↓vlook_t, ↓vlook_f, guard_none, guard_some, vgof_bool, ↓vrun_nil, ↓vdr_nil, ↓code_region, ↓code_seq, ↓code_ret, ↓onNormal_normal, ↓onNormal_ret, ↓onBlock_ret, frz_pv, frzHeap_zero, res_one, vres_tmp, load_ptr, vld_one, blk_zero, blk_succ, faddr_ptr, vfap_some, bin_int, int_lss, un_not, okc_nil, okc_none, okc_other, evG_eq, ↓vrun_cons, ↓run1_some, ↓runG_true, ↓runG_false, ↓run2_none, ↓run3_some, ↓vdr_cons, ↓dr1_some, ↓drG_true, ↓dr2_none, ↓dr3_some, ↓drK_eq, ↓code_cond, ↓vtest_bool, ↓vbr_true, ↓vbr_false, ↓vpost_ret, vfin_some, vfin2_some, at_hp, pickV_t, List.getElem?_cons_zero, List.getElem?_cons_succ, List.cons_append, List.nil_append, Option.map_some, Option.bind_some, ↓reduceIte, reduceCtorEq, Nat.reduceAdd, Nat.reduceLT, Nat.reduceBEq, Int.reduceLT, Int.reduceAdd, Int.reduceBEq, Nat.zero_add, Nat.add_zero, and_self, or_true, Bool.not_true, Bool.not_false, Bool.or_true, Bool.and_self, b_beq_f, cond_false, beq_self_eq_true, Try.vt3, Try.vfield29x0, Try.vfield73x1, dec_t, Ret, DV.nums, d4, d5]
        by_cases d6 : pages + spares ≤ ad
        · rw [hfail (by rw [hchk]; simp [show ¬ ad < pages + spares by omega])]
          by_cases hin : 0 ≤ ad ∧ ad < 64
          · have hug := usedL_get u ad.toNat (by omega)
            obtain ⟨hin1, hin2⟩ := hin
            simp (config := { maxSteps := 2000000 }) (implicitDefEqProofs := false) (disch := first | omega | assumption) only [vop_move, vcallee_move, vop_assign, vcallee_assign, okKind_assign, foot_assign, vop_pick, vcallee_pick, okKind_pick, foot_pick, vop_load, vcallee_load, vop_binOp, vcallee_binOp, vop_unOp, vcallee_unOp, okKind_unOp, foot_unOp, vop_fieldAddr, vcallee_fieldAddr, bin2_tmp, vpick_bool, strip_pv, strip_ptr, strip_tup, strip_opt, vstr_true, optV_none, optV_some, pickV_bool, ev_tmp, ev_const, ofConst_bool, put_some, at_mk, fits_some, ↓look_cons, ↓vlook_t, ↓vlook_f, guard_none, guard_some, vgof_bool, ↓vrun_nil, ↓vdr_nil, ↓code_region, ↓code_seq, ↓code_ret, ↓onNormal_normal, ↓onNormal_ret, ↓onBlock_ret, frz_pv, frzHeap_zero, res_one, vres_tmp, load_ptr, vld_one, blk_zero, blk_succ, faddr_ptr, vfap_some, bin_int, int_add, int_lss, int_geq, un_not, okc_nil, okc_none, okc_other, evG_eq, ↓vrun_cons, ↓run1_some, ↓runG_true, ↓runG_false, ↓run2_none, ↓run3_some, ↓vdr_cons, ↓dr1_some, ↓drG_true, ↓dr2_none, ↓dr3_some, ↓drK_eq, ↓code_cond, ↓vtest_bool, ↓vbr_true, ↓vbr_false, ↓vpost_ret, vfin_some, vfin2_some, at_hp, pickV_t, List.getElem?_cons_zero, List.getElem?_cons_succ, List.cons_append, List.nil_append, Option.map_some, Option.bind_some, ↓reduceIte, reduceCtorEq, Nat.reduceAdd, Nat.reduceLT, Nat.reduceBEq, Int.reduceLT, Int.reduceAdd, Int.reduceBEq, Nat.zero_add, Nat.add_zero, decide_false, and_self, or_true, Bool.not_true, Bool.not_false, Bool.or_true, Bool.and_self, b_beq_f, cond_false, Bool.cond_self, beq_self_eq_true, Try.vt3, Try.vfield29x0, Try.vfield29x1, Try.vfield73x1, wrap_i64_in, dec_t, Ret, DV.nums, d4, d5, d6]
          · have hnn := hnin hin
            simp (config := { maxSteps := 2000000 }) (implicitDefEqProofs := false) (disch := first | omega | assumption) only [vop_move, vcallee_move, vop_assign, vcallee_assign, okKind_assign, foot_assign, vop_pick, vcallee_pick, okKind_pick, foot_pick, vop_load, vcallee_load, vop_binOp, vcallee_binOp, vop_unOp, vcallee_unOp, okKind_unOp, foot_unOp, vop_fieldAddr, vcallee_fieldAddr, bin2_tmp, vpick_bool, strip_pv, strip_ptr, strip_tup, strip_opt, vstr_true, optV_none, optV_some, pickV_bool, ev_tmp, ev_const, ofConst_bool, put_some, at_mk, fits_some, ↓look_cons, ↓vlook_t, ↓vlook_f, guard_none, guard_some, vgof_bool, ↓vrun_nil, ↓vdr_nil, ↓code_region, ↓code_seq, ↓code_ret, ↓onNormal_normal, ↓onNormal_ret, ↓onBlock_ret, frz_pv, frzHeap_zero, res_one, vres_tmp, load_ptr, vld_one, blk_zero, blk_succ, faddr_ptr, vfap_some, bin_int, int_add, int_lss, int_geq, un_not, okc_nil, okc_none, okc_other, evG_eq, ↓vrun_cons, ↓run1_some, ↓runG_true, ↓runG_false, ↓run2_none, ↓run3_some, ↓vdr_cons, ↓dr1_some, ↓drG_true, ↓dr2_none, ↓dr3_some, ↓drK_eq, ↓code_cond, ↓vtest_bool, ↓vbr_true, ↓vbr_false, ↓vpost_ret, vfin_some, vfin2_some, at_hp, pickV_t, List.getElem?_cons_zero, List.getElem?_cons_succ, List.cons_append, List.nil_append, Option.map_some, Option.bind_some, ↓reduceIte, reduceCtorEq, Nat.reduceAdd, Nat.reduceLT, Nat.reduceBEq, Int.reduceLT, Int.reduceAdd, Int.reduceBEq, Nat.zero_add, Nat.add_zero, decide_false, and_self, or_true, Bool.not_true, Bool.not_false, Bool.or_true, Bool.and_self, b_beq_f, cond_false, Bool.cond_self, beq_self_eq_true, Try.vt3, Try.vfield29x0, Try.vfield29x1, Try.vfield73x1, wrap_i64_in, dec_t, Ret, DV.nums, d4, d5, d6]
        have hin1 : 0 ≤ ad := by omega
        have hin2 : ad < 64 := by omega
        have hug := usedL_get u ad.toNat (by omega)
        have hus := usedL_set u ad.toNat
        rw [show ((ad.toNat : Nat) : Int) = ad by omega] at hug hus
        by_cases d7 : ad ∈ bad
        · rw [hfail (by rw [hchk]; simp [d7])]
          simp (config := { maxSteps := 2000000 }) (implicitDefEqProofs := false) (disch := first | omega | assumption) only [vop_move, vcallee_move, vop_assign, vcallee_assign, okKind_assign, foot_assign, vop_pick, vcallee_pick, okKind_pick, foot_pick, vop_load, vcallee_load, vop_binOp, vcallee_binOp, vop_unOp, vcallee_unOp, okKind_unOp, foot_unOp, vop_fieldAddr, vcallee_fieldAddr, vcallee_value, vcal_fn, bin2_tmp, vpick_bool, strip_pv, strip_ptr, strip_fn, strip_opt, vstr_true, optV_none, optV_some, pickV_bool, ev_tmp, ev_const, ev_func, ofConst_bool, put_some, at_mk, fits_some, ↓look_cons, ↓vlook_t, ↓vlook_f, guard_none, guard_some, vgof_bool, ↓vdr_nil, ↓code_region, ↓code_seq, ↓onNormal_normal, load_ptr, vld_one, vld_agg, blk_zero, blk_succ, faddr_ptr, vfap_some, bin_int, int_add, int_lss, int_geq, un_not, okc_nil, okc_none, okc_other, evG_eq, ↓vrun_cons, ↓run1_some, ↓runG_true, ↓run2_none, ↓run2_some, ↓run3_some, ↓vdr_cons, ↓dr1_some, ↓drG_true, ↓dr2_none, ↓dr3_some, ↓drK_eq, ↓code_cond, ↓vtest_bool, ↓vbr_false, at_hp, List.map_nil, List.getElem?_cons_zero, List.getElem?_cons_succ, List.length_cons, List.length_nil, List.map_cons, List.map_nil, List.cons_append, List.nil_append, List.append_nil, List.take_succ_cons, List.take_nil, List.drop_zero, Option.map_some, Option.bind_some, ↓reduceIte, reduceCtorEq, Nat.reduceAdd, Nat.reduceLT, Nat.reduceBEq, Int.reduceLT, Int.reduceAdd, Int.reduceBEq, Nat.zero_add, Nat.add_zero, decide_false, true_and, or_true, Bool.not_true, Bool.not_false, Bool.or_true, Bool.true_and, cond_false, beq_self_eq_true, Nat.le_refl, Try.vt3, Try.vt29, Try.vfield29x0, Try.vfield29x1, Try.vfield73x1, wrap_i64_in, dec_t, d4, d5, d6]
          refine vc_pure (hb2) rfl ?_
          simp (config := { maxSteps := 2000000 }) (implicitDefEqProofs := false) (disch := first | omega | assumption) only [vop_move, vcallee_move, vop_assign, vcallee_assign, vop_pick, vcallee_pick, vpick_bool, strip_pv, strip_tup, strip_opt, vstr_true, optV_none, optV_some, pickV_bool, ev_tmp, ev_const, ofConst_bool, put_some, at_mk, fits_some, ↓look_cons, ↓vlook_t, ↓vlook_f, guard_none, guard_some, vgof_bool, ↓vrun_nil, ↓code_region, ↓code_seq, ↓code_ret, ↓onNormal_normal, ↓onNormal_ret, ↓onBlock_ret, frz_pv, frzHeap_zero, res_one, vres_tmp, evG_eq, ↓vrun_cons, ↓run1_some, ↓runG_true, ↓runG_false, ↓run2_none, ↓run3_some, ↓runK_eq, ↓code_cond, ↓vtest_bool, ↓vbr_true, ↓vpost_ret, vfin_some, vfin2_some, at_hp, pickV_t, List.getElem?_cons_zero, List.getElem?_cons_succ, Option.map_some, Option.bind_some, Nat.reduceLT, Nat.reduceBEq, Int.reduceLT, Int.reduceBEq, and_self, or_true, Bool.not_true, Bool.not_false, Bool.or_true, Bool.and_self, b_beq_f, Bool.cond_self, beq_self_eq_true, dec_t, Ret, DV.nums, d7]
        by_cases d8 : ad ∈ u
        · rw [hfail (by rw [hchk]; simp [d8])]
          simp (config := { maxSteps := 2000000 }) (implicitDefEqProofs := false) (disch := first | omega | assumption) only [vop_move, vcallee_move, vop_assign, vcallee_assign, okKind_assign, foot_assign, vop_pick, vcallee_pick, okKind_pick, foot_pick, vop_load, vcallee_load, vop_binOp, vcallee_binOp, vop_unOp, vcallee_unOp, okKind_unOp, foot_unOp, vop_fieldAddr, vcallee_fieldAddr, vcallee_value, vcal_fn, bin2_tmp, vpick_bool, strip_pv, strip_ptr, strip_fn, strip_opt, vstr_true, optV_none, optV_some, pickV_bool, ev_tmp, ev_const, ev_func, ofConst_bool, put_some, at_mk, fits_some, ↓look_cons, ↓vlook_t, ↓vlook_f, guard_none, guard_some, vgof_bool, ↓vdr_nil, ↓code_region, ↓code_seq, ↓onNormal_normal, load_ptr, vld_one, vld_agg, blk_zero, blk_succ, faddr_ptr, vfap_some, bin_int, int_add, int_lss, int_geq, un_not, okc_nil, okc_none, okc_other, evG_eq, ↓vrun_cons, ↓run1_some, ↓runG_true, ↓run2_none, ↓run2_some, ↓run3_some, ↓vdr_cons, ↓dr1_some, ↓drG_true, ↓dr2_none, ↓dr3_some, ↓drK_eq, ↓code_cond, ↓vtest_bool, ↓vbr_false, at_hp, List.map_nil, List.getElem?_cons_zero, List.getElem?_cons_succ, List.length_cons, List.length_nil, List.map_cons, List.map_nil, List.cons_append, List.nil_append, List.append_nil, List.take_succ_cons, List.take_nil, List.drop_zero, Option.map_some, Option.bind_some, ↓reduceIte, reduceCtorEq, Nat.reduceAdd, Nat.reduceLT, Nat.reduceBEq, Int.reduceLT, Int.reduceAdd, Int.reduceBEq, Nat.zero_add, Nat.add_zero, decide_false, true_and, or_true, Bool.not_true, Bool.not_false, Bool.or_true, Bool.true_and, cond_false, beq_self_eq_true, Nat.le_refl, Try.vt3, Try.vt29, Try.vfield29x0, Try.vfield29x1, Try.vfield73x1, wrap_i64_in, dec_t, d4, d5, d6]
          refine vc_pure (hb2) rfl ?_
          simp (config := { maxSteps := 2000000 }) (implicitDefEqProofs := false) (disch := first | omega | assumption) only [vop_move, vcallee_move, vop_assign, vcallee_assign, vop_pick, vcallee_pick, vop_load, vcallee_load, vop_fieldAddr, vcallee_fieldAddr, vop_indexAddr, vcallee_indexAddr, vpick_bool, strip_pv, strip_ptr, strip_opt, vstr_true, optV_none, optV_some, pickV_bool, ev_tmp, ev_const, ofConst_bool, put_some, at_mk, fits_some, ↓look_cons, ↓vlook_t, ↓vlook_f, guard_none, guard_some, vgof_bool, ↓vrun_nil, ↓code_region, ↓code_seq, ↓code_ret, ↓onNormal_normal, ↓onNormal_ret, ↓onBlock_ret, frz_pv, frzHeap_zero, res_one, vres_tmp, load_ptr, vld_one, blk_zero, blk_succ, faddr_ptr, vfap_some, iaddr_ptr, viap_some, evG_eq, ↓vrun_cons, ↓run1_some, ↓runG_true, ↓run2_none, ↓run3_some, ↓runK_eq, ↓code_cond, ↓vtest_bool, ↓vbr_true, ↓vpost_ret, vfin_some, vfin2_some, at_hp, List.getElem?_cons_zero, List.getElem?_cons_succ, Option.map_some, Option.bind_some, ↓reduceIte, reduceCtorEq, Nat.reduceLT, Nat.reduceBEq, Int.reduceLT, Int.reduceBEq, Nat.zero_add, Nat.mul_one, decide_false, and_self, or_true, Bool.not_true, Bool.not_false, Bool.or_true, Bool.and_self, cond_false, Bool.cond_self, beq_self_eq_true, Try.vt3, Try.vt4, Try.vfield73x1, Try.velem75, dec_t, Ret, DV.nums, hug, d7, d8]
        obtain ⟨t, ht1⟩ := step (by rw [hchk]; simp [c0, d4, d7, d8]; omega)
        have hadn : ad.toNat < 64 := by omega
        simp (config := { maxSteps := 2000000 }) (implicitDefEqProofs := false) (disch := first | omega | assumption) only [vop_move, vcallee_move, vop_assign, vcallee_assign, okKind_assign, foot_assign, vop_pick, vcallee_pick, okKind_pick, foot_pick, vop_load, vcallee_load, vop_binOp, vcallee_binOp, vop_unOp, vcallee_unOp, okKind_unOp, foot_unOp, vop_fieldAddr, vcallee_fieldAddr, vcallee_value, vcal_fn, bin2_tmp, vpick_bool, strip_pv, strip_ptr, strip_fn, strip_opt, vstr_true, optV_none, optV_some, pickV_bool, ev_tmp, ev_const, ev_func, ofConst_bool, put_some, at_mk, fits_some, ↓look_cons, ↓vlook_t, ↓vlook_f, guard_none, guard_some, vgof_bool, ↓vdr_nil, ↓code_region, ↓code_seq, ↓onNormal_normal, load_ptr, vld_one, vld_agg, blk_zero, blk_succ, faddr_ptr, vfap_some, bin_int, int_add, int_lss, int_geq, un_not, okc_nil, okc_none, okc_other, evG_eq, ↓vrun_cons, ↓run1_some, ↓runG_true, ↓run2_none, ↓run2_some, ↓run3_some, ↓vdr_cons, ↓dr1_some, ↓drG_true, ↓dr2_none, ↓dr3_some, ↓drK_eq, ↓code_cond, ↓vtest_bool, ↓vbr_false, at_hp, List.map_nil, List.getElem?_cons_zero, List.getElem?_cons_succ, List.length_cons, List.length_nil, List.map_cons, List.map_nil, List.cons_append, List.nil_append, List.append_nil, List.take_succ_cons, List.take_nil, List.drop_zero, Option.map_some, Option.bind_some, ↓reduceIte, reduceCtorEq, Nat.reduceAdd, Nat.reduceLT, Nat.reduceBEq, Int.reduceLT, Int.reduceAdd, Int.reduceBEq, Nat.zero_add, Nat.add_zero, decide_false, true_and, or_true, Bool.not_true, Bool.not_false, Bool.or_true, Bool.true_and, cond_false, beq_self_eq_true, Nat.le_refl, Try.vt3, Try.vt29, Try.vfield29x0, Try.vfield29x1, Try.vfield73x1, wrap_i64_in, dec_t, d4, d5, d6]
        refine vc_pure (hb2) rfl ?_
        simp (config := { maxSteps := 2000000 }) (implicitDefEqProofs := false) (disch := first | omega | assumption) only [vop_move, vcallee_move, vop_assign, vcallee_assign, vop_pick, vcallee_pick, vop_load, vcallee_load, vop_store, vcallee_store, vop_binOp, vcallee_binOp, vop_fieldAddr, vcallee_fieldAddr, vop_indexAddr, vcallee_indexAddr, bin2_int, vpick_bool, strip_pv, strip_ptr, strip_opt, vstr_true, optV_none, optV_some, pickV_bool, ev_tmp, ev_const, ofConst_int, ofConst_bool, put_some, put_none, at_mk, fits_some, fits_none, ↓look_cons, ↓vlook_t, ↓vlook_f, guard_none, guard_some, vgof_bool, ↓vrun_nil, ↓code_skip, ↓code_region, ↓onNormal_normal, ↓onBlock_normal, load_ptr, vld_one, store_ptr, vst_one, blk_zero, blk_succ, set_zero, set_succ, one_pv, faddr_ptr, vfap_some, iaddr_ptr, viap_some, bin_int, int_add, evG_eq, ↓vrun_cons, ↓run1_some, ↓runG_true, ↓run2_none, ↓run3_some, ↓runK_eq, ↓code_cond, ↓vtest_bool, ↓vbr_false, at_hp, List.getElem?_cons_zero, List.getElem?_cons_succ, Option.map_some, Option.bind_some, ↓reduceIte, reduceCtorEq, Nat.reduceLT, Nat.reduceBEq, Int.reduceLT, Int.reduceBEq, Nat.zero_add, Nat.mul_one, decide_false, true_and, and_self, or_true, Bool.not_true, Bool.not_false, Bool.or_true, Bool.true_and, Bool.and_self, cond_false, beq_self_eq_true, cellsB_len, Try.vt3, Try.vt4, Try.vfield73x1, Try.velem75, wrap_i64_in, dec_t, hug, d7, d8, cellsB_len, usedL_len, hadn, hus]
        refine ⟨t, by rw [ht1]; omega, ?_⟩
        rw [ht1, htk]
        exact (by refine gc_of (keep := [0, 1]) rfl rfl rfl (by decide) ?_ ?_ <;> (repeat' apply And.intro) <;> first | trivial | rfl | exact ⟨_, rfl, rfl, rfl, .inl ⟨rfl, rfl⟩⟩ | exact ⟨_, rfl, rfl, rfl, .inl ⟨cells_nums _ _ _, rfl⟩⟩ | exact ⟨_, rfl, rfl, rfl, .inl ⟨pvs_nums _ _, rfl⟩⟩ | exact ⟨_, rfl, rfl, rfl, .inr ⟨rfl, rfl⟩⟩)
    · have hallP := s2.all (by omega)
      have e : Rm.okB ⟨pages, spares, places, bad⟩ = (n == places.length) := by
        rw [Rm.okB, hhead]
        dsimp only
        rw [hallB, hallP, hn]; simp
      rw [e]
      have eb : ((n : Int) == (places.length : Int)) = (n == places.length) := by
        by_cases h : n = places.length
        · rw [h]; simp
        · rw [beq_eq_false_iff_ne.2 h, beq_eq_false_iff_ne]; omega
      simp (config := { maxSteps := 2000000 }) (implicitDefEqProofs := false) (disch := first | omega | assumption) only [vop_move, vcallee_move, vop_assign, vcallee_assign, vop_load, vcallee_load, vop_binOp, vcallee_binOp, vop_fieldAddr, vcallee_fieldAddr, vop_builtin, vcallee_builtin, bin2_tmp, strip_pv, strip_ptr, optV_none, ev_tmp, put_some, at_mk, fits_some, ↓look_cons, ↓vlook_t, ↓vlook_f, guard_none, ↓vrun_nil, ↓code_region, ↓code_seq, ↓code_exit, ↓code_ret, ↓onNormal_normal, ↓onNormal_exit, ↓onBlock_exit, frz_pv, frzHeap_zero, res_one, vres_tmp, load_ptr, vld_one, blk_zero, faddr_ptr, vfap_some, bin_int, int_eql, len_sl, vlk_sl, bi_len, evG_eq, ↓vrun_cons, ↓run1_some, ↓runG_true, ↓run2_none, ↓run3_some, ↓vpost_ret, vfin_some, vfin2_some, at_hp, List.map_nil, List.getElem?_cons_zero, List.getElem?_cons_succ, List.map_cons, List.map_nil, Option.map_some, ↓reduceIte, reduceCtorEq, Nat.reduceLT, Nat.reduceBEq, Int.reduceLT, Int.reduceBEq, Nat.zero_add, and_self, Bool.and_self, beq_self_eq_true, fz_len, Try.vt26, Try.vkind26, Try.vfield29x2, dec_t, dec_f, Ret, DV.nums, eb]
end Go.Proofs.Ytjjjlkjhojdnnaa

namespace Go.Proofs.Ytjjjlkjhojdnnaa
open Go.V Go
set_option maxRecDepth 100000
set_option linter.unusedSimpArgs false

/-- A right map. -/
structure Rm.Ok (r : Rm) : Prop where
  p1 : 1 ≤ r.pages
  p2 : r.pages ≤ 64
  s1 : 0 ≤ r.spares
  s2 : r.spares ≤ 16
  s3 : r.pages + r.spares ≤ 64
  basc : r.bad.Pairwise (· < ·)
  brng : ∀ x ∈ r.bad, 0 ≤ x ∧ x < r.pages + r.spares
  pasc : (r.places.map (·.pg)).Pairwise (· < ·)
  prng : ∀ p ∈ r.places, 0 ≤ p.pg ∧ p.pg < r.pages ∧ p.pg ∈ r.bad ∧ r.pages ≤ p.ad ∧ p.ad < r.pages + r.spares ∧ ¬ p.ad ∈ r.bad
  adnd : (r.places.map (·.ad)).Nodup
  own : (r.bad.filter fun x => decide (x < r.pages)).length = r.places.length

theorem getD_eq {α : Type} (l : List α) (i : Nat) (h : i < l.length) (d : α) : l.getD i d = l[i] := by rw [List.getD_eq_getElem?_getD, List.getElem?_eq_getElem h]; rfl
theorem nodup_take {α : Type} (l : List α) (h : ∀ i, ∀ hi : i < l.length, ¬ l[i] ∈ l.take i) : l.Nodup := by
  rw [List.Nodup, List.pairwise_iff_getElem]
  intro i j hi hj hij e
  exact h j hj (List.mem_take_iff_getElem.2 ⟨i, by omega, e⟩)
theorem ok_iff (r : Rm) : r.okB = true ↔ r.Ok := by
  constructor
  · intro h
    simp only [Rm.okB, Bool.and_eq_true] at h
    obtain ⟨⟨⟨h1, h2⟩, h3⟩, h4⟩ := h
    have hb := bad_asc r h2
    simp only [Rm.headB, Bool.and_eq_true, decide_eq_true_eq] at h1
    rw [List.all_eq_true] at h2 h3
    have h3' : ∀ i, ∀ hi : i < r.places.length, (0 ≤ r.places[i].pg ∧ r.places[i].pg < r.pages ∧ r.places[i].pg ∈ r.bad ∧ r.pages ≤ r.places[i].ad ∧ r.places[i].ad < r.pages + r.spares ∧ ¬ r.places[i].ad ∈ r.bad) ∧ (i = 0 ∨ (r.places.getD (i - 1) P0).pg < r.places[i].pg) ∧ ¬ r.places[i].ad ∈ (r.places.take i).map (·.ad) := fun i hi => by
      have := h3 i (by rwa [List.mem_range])
      simp only [Rm.chkP, getD_eq r.places i hi, Bool.and_eq_true, Bool.or_eq_true, Bool.not_eq_true', decide_eq_true_eq, decide_eq_false_iff_not] at this
      obtain ⟨⟨⟨⟨⟨⟨⟨a, b⟩, c⟩, d⟩, e⟩, f⟩, g⟩, k⟩ := this
      exact ⟨⟨a, b, d, e, f, g⟩, c, k⟩
    refine ⟨h1.1.1.1.1, h1.1.1.1.2, h1.1.1.2, h1.1.2, h1.2, hb, fun x hx => ?_, ?_, fun p hp => ?_, ?_, ?_⟩
    · obtain ⟨i, hi, rfl⟩ := List.getElem_of_mem hx
      have := h2 i (by rwa [List.mem_range])
      simp only [Rm.chkB, getD_eq r.bad i hi, Bool.and_eq_true, decide_eq_true_eq] at this
      exact this.1
    · refine fore_of _ fun i hi => ?_
      rw [List.length_map] at hi
      rcases Nat.eq_zero_or_pos i with h0 | h0
      · exact .inl h0
      · refine .inr ?_
        have := (h3' i hi).2.1
        rw [getD_eq _ i (by rwa [List.length_map]), getD_eq _ (i - 1) (by rw [List.length_map]; omega), List.getElem_map, List.getElem_map]
        rw [getD_eq r.places (i - 1) (by omega)] at this
        rcases this with h | h
        · omega
        · exact h
    · obtain ⟨i, hi, rfl⟩ := List.getElem_of_mem hp
      exact (h3' i hi).1
    · refine nodup_take _ fun i hi => ?_
      rw [List.length_map] at hi
      have := (h3' i hi).2.2
      rwa [List.getElem_map, ← List.map_take]
    · have := beq_iff_eq.1 h4
      rw [Rm.own, List.take_length] at this
      exact this
  · intro h
    simp only [Rm.okB, Bool.and_eq_true]
    refine ⟨⟨⟨?_, ?_⟩, ?_⟩, ?_⟩
    · simp only [Rm.headB, Bool.and_eq_true, decide_eq_true_eq]
      exact ⟨⟨⟨⟨h.p1, h.p2⟩, h.s1⟩, h.s2⟩, h.s3⟩
    · rw [List.all_eq_true]
      intro i hi
      rw [List.mem_range] at hi
      obtain ⟨a, b⟩ := h.brng _ (List.getElem_mem hi)
      simp only [Rm.chkB, getD_eq r.bad i hi, Bool.and_eq_true, Bool.or_eq_true, decide_eq_true_eq]
      refine ⟨⟨a, b⟩, ?_⟩
      rcases Nat.eq_zero_or_pos i with h0 | h0
      · exact .inl h0
      · rw [getD_eq r.bad (i - 1) (by omega)]
        exact .inr (List.pairwise_iff_getElem.mp h.basc (i - 1) i (by omega) hi (by omega))
    · rw [List.all_eq_true]
      intro i hi
      rw [List.mem_range] at hi
      obtain ⟨a, b, c, d, e, f⟩ := h.prng _ (List.getElem_mem hi)
      simp only [Rm.chkP, getD_eq r.places i hi, Bool.and_eq_true, Bool.or_eq_true, Bool.not_eq_true', decide_eq_true_eq, decide_eq_false_iff_not]
      refine ⟨⟨⟨⟨⟨⟨⟨a, b⟩, ?_⟩, c⟩, d⟩, e⟩, f⟩, ?_⟩
      · rcases Nat.eq_zero_or_pos i with h0 | h0
        · exact .inl h0
        · rw [getD_eq r.places (i - 1) (by omega)]
          have := List.pairwise_iff_getElem.mp h.pasc (i - 1) i (by rw [List.length_map]; omega) (by rw [List.length_map]; exact hi) (by omega)
          rw [List.getElem_map, List.getElem_map] at this
          exact .inr this
      · intro hm
        rw [List.map_take] at hm
        obtain ⟨j, hj, e⟩ := List.mem_take_iff_getElem.1 hm
        have := List.pairwise_iff_getElem.mp h.adnd j i (by omega) (by rw [List.length_map]; exact hi) (by omega)
        exact this (by rw [e, List.getElem_map])
    · rw [beq_iff_eq, Rm.own, List.take_length]
      exact h.own

theorem pl_fore (l : List Pl) (h : (l.map (·.pg)).Pairwise (· < ·)) (y : Int) : Fore l (fun p => decide (p.pg - y < 0)) := fun i j hi hj hij hx => by
  have := List.pairwise_iff_getElem.mp h i j (by rwa [List.length_map]) (by rwa [List.length_map]) hij
  rw [List.getElem_map, List.getElem_map] at this
  simp only [decide_eq_true_eq] at hx ⊢
  omega
/-- Where a page stands among the places. -/
def plo (l : List Pl) (y : Int) : Nat := lo l fun p => decide (p.pg - y < 0)
def pfound (l : List Pl) (y : Int) : Bool := (l[plo l y]?.map fun p => p.pg - y == 0).getD false
theorem pfound_find (l : List Pl) (h : (l.map (·.pg)).Pairwise (· < ·)) (y : Int) : (l.find? fun p => p.pg == y) = if pfound l y = true then l[plo l y]? else none := by
  by_cases hf : pfound l y = true
  · rw [if_pos hf]
    unfold pfound at hf
    cases hx : l[plo l y]? with
    | none => rw [hx] at hf; simp at hf
    | some p =>
      rw [hx] at hf
      obtain ⟨hlt, he⟩ := List.getElem?_eq_some_iff.1 hx
      have hp : p.pg = y := by simp at hf; omega
      rw [List.find?_eq_some_iff_getElem]
      refine ⟨by simp [hp], plo l y, hlt, he, fun j hj => ?_⟩
      have := lo_before l (fun p => decide (p.pg - y < 0)) j hj (by omega)
      simp only [decide_eq_true_eq] at this
      simp only [Bool.not_eq_eq_eq_not, Bool.not_true, beq_eq_false_iff_ne]
      omega
  · rw [if_neg hf, List.find?_eq_none]
    intro p hp
    obtain ⟨k, hk, rfl⟩ := List.getElem_of_mem hp
    simp only [beq_iff_eq]
    intro e
    apply hf
    have hlo : plo l y = k := by
      refine lo_eq l _ k (by omega) (fun j hj hjk => ?_) (fun hk => ?_)
      · have := List.pairwise_iff_getElem.mp h j k (by rwa [List.length_map]) (by rwa [List.length_map]) hjk
        rw [List.getElem_map, List.getElem_map] at this
        rw [decide_eq_true_eq]; omega
      · rw [decide_eq_false_iff_not]; omega
    rw [pfound, hlo, List.getElem?_eq_getElem hk]
    simp; omega
/-- Where a page lies; who lies where; what is free. -/
def Rm.whereS (r : Rm) (y : Int) : Int := match r.places.find? fun p => p.pg == y with | some p => p.ad | none => y
def Rm.ownerS (r : Rm) (a : Int) : Option Int := if a < 0 ∨ a ∈ r.bad then none else if a < r.pages then some a else (r.places.find? fun p => p.ad == a).map (·.pg)
def Rm.freeN (r : Rm) (n : Nat) : List Int := ((List.range n).map fun k : Nat => r.pages + (k : Int)).filter fun x => !decide (x ∈ r.places.map (·.ad)) && !decide (x ∈ r.bad)
def Rm.freeS (r : Rm) : List Int := r.freeN r.spares.toNat
end Go.Proofs.Ytjjjlkjhojdnnaa

namespace Go.Proofs.Ytjjjlkjhojdnnaa
open Go.V Go
set_option maxRecDepth 100000
set_option linter.unusedSimpArgs false

theorem place1_v (p : Pl) (y : Int) (h : -1000 ≤ p.pg - y ∧ p.pg - y ≤ 1000) : VCalls Try.prog 67 [.agg [.int .i64 p.pg, .int .i64 p.ad], .int .i64 y] [] (Ret (.int .i64 (p.pg - y))) := by
  refine vcalls_drop (fn := Try.f67) Try.func67 rfl (by kernel_rfl) (by simp [Try.f67]) ?_
  simp (config := { maxSteps := 2000000 }) (implicitDefEqProofs := false) (disch := first | omega | assumption | (simp only []; done) | fail) only [vop_move, vcallee_move, vop_assign, vcallee_assign, vop_box, vcallee_box, vop_load, vcallee_load, vop_binOp, vcallee_binOp, vop_fieldAddr, vcallee_fieldAddr, bin2_tmp, strip_pv, strip_ptr, strip_agg, optV_none, ev_tmp, ev_const, ofConst_int, put_some, at_mk, fits_some, ↓look_cons, ↓vlook_t, ↓vlook_f, guard_none, ↓vrun_nil, ↓code_region, ↓code_seq, ↓code_ret, ↓onNormal_normal, frz_pv, frzHeap_zero, res_one, vres_tmp, load_ptr, vld_one, blk_zero, box_eq, allOne_nil, allOne_cons, one_pv, faddr_ptr, vfap_some, bin_int, int_sub, enum_nil, enum_cons, evG_eq, ↓vrun_cons, ↓run1_some, ↓runG_true, ↓run2_none, ↓run3_some, ↓vpost_ret, vfin_some, vfin2_some, at_hp, dcells, List.toList_toArray, List.getElem?_cons_zero, List.length_nil, List.nil_append, Option.map_some, ↓reduceIte, reduceCtorEq, Nat.reduceAdd, Nat.reduceLT, Nat.reduceBEq, Int.reduceLT, Int.reduceAdd, Int.reduceBEq, Nat.zero_add, Nat.add_zero, and_self, Bool.and_self, beq_self_eq_true, Try.vt3, Try.vfield73x0, wrap_i64_in, dec_t, Ret, DV.nums, Try.f67]
theorem place_v (r : Rm) (h : r.Ok) (hs : r.sm) (y : Int) (hy : 0 ≤ y ∧ y < r.pages) : VCalls Try.prog 42 [.agg r.d, .int .i64 y] [] (Ret (.tup [.int .i64 (plo r.places y), .bool (pfound r.places y)])) := by
  refine vcalls_drop (fn := Try.f42) Try.func42 rfl (by kernel_rfl) (by simp [Try.f42]) ?_
  have h2 := h.p2
  have hb := bsearchFP_v r.places (by have := hs.1; omega) y 67 (fun p => p.pg - y) (fun p hp => place1_v p y (by have := h.prng p hp; omega)) (pl_fore r.places h.pasc y)
  simp (config := { maxSteps := 2000000 }) (implicitDefEqProofs := false) (disch := first | omega | assumption | (simp only []; done) | fail) only [vop_move, vcallee_move, vop_assign, vcallee_assign, vop_box, vcallee_box, vop_load, vcallee_load, vop_fieldAddr, vcallee_fieldAddr, vcallee_value, vcal_fn, strip_pv, strip_ptr, strip_agg, strip_fn, optV_none, ev_tmp, ev_const, ev_func, ofConst_int, ofConst_bool, put_some, at_mk, fits_some, ↓look_cons, ↓vlook_t, ↓vlook_f, guard_none, ↓vrun_nil, ↓code_region, ↓code_seq, ↓onNormal_normal, load_ptr, vld_one, blk_zero, box_eq, allOne_nil, allOne_cons, one_pv, faddr_ptr, vfap_some, enum_nil, enum_cons, evG_eq, ↓vrun_cons, ↓run1_some, ↓runG_true, ↓run2_none, ↓run2_some, ↓run3_some, at_hp, List.map_nil, dcells, List.toList_toArray, List.getElem?_cons_zero, List.getElem?_cons_succ, List.length_nil, List.map_cons, List.map_nil, List.nil_append, List.append_nil, Option.map_some, ↓reduceIte, reduceCtorEq, Nat.reduceAdd, Nat.reduceLT, Nat.reduceBEq, Int.reduceLT, Int.reduceAdd, Int.reduceBEq, Nat.zero_add, true_and, and_self, Bool.true_and, Bool.and_self, beq_self_eq_true, Try.vt26, Try.vfield29x2, dec_t, Try.f42, Rm.d]
  refine vc_pure hb rfl ?_
  simp (config := { maxSteps := 2000000 }) (implicitDefEqProofs := false) (disch := first | omega | assumption | (simp only []; done) | fail) only [vop_assign, vcallee_assign, vop_extract, vcallee_extract, strip_pv, strip_tup, optV_none, ev_tmp, put_some, at_mk, fits_some, ↓look_cons, ↓vlook_t, ↓vlook_f, guard_none, ↓vrun_nil, ↓code_ret, ↓onNormal_normal, frz_tup, frzT_pv, allSome_nil, allSome_cons, frzHeap_zero, res_two, vres_tmp, ext_tup, evG_eq, ↓vrun_cons, ↓run1_some, ↓runG_true, ↓run2_none, ↓run3_some, ↓runK_eq, ↓vpost_ret, vfin_some, vfin2_some, at_hp, List.map_nil, List.getElem?_cons_zero, List.getElem?_cons_succ, List.map_cons, List.map_nil, Option.map_some, Nat.reduceLT, Nat.reduceBEq, Int.reduceLT, Int.reduceBEq, true_and, and_self, Bool.true_and, Bool.and_self, beq_self_eq_true, DV.wk.go, dec_t, Ret, DV.nums, DV.nums.go]
  rfl
theorem where_v (r : Rm) (hs : r.sm) (y : Int) : VCalls Try.prog 19 [.agg r.d, .int .i64 y] [] (Ret (if r.okB = true then if y < 0 ∨ r.pages ≤ y then .tup [.int .i64 0, .int .i64 1] else .tup [.int .i64 (r.whereS y), .int .i64 0] else .tup [.int .i64 0, .int .i64 48])) := by
  refine vcalls_drop (fn := Try.f19) Try.func19 rfl (by kernel_rfl) (by simp [Try.f19]) ?_
  have hv := valid_v r hs
  simp (config := { maxSteps := 2000000 }) (implicitDefEqProofs := false) (disch := first | omega | assumption | (simp only []; done) | fail) only [vop_assign, vcallee_assign, vop_box, vcallee_box, vop_load, vcallee_load, vcallee_value, vcal_fn, strip_pv, strip_ptr, strip_agg, strip_fn, optV_none, ev_tmp, ev_const, ev_func, ofConst_int, put_some, at_mk, fits_some, ↓look_cons, ↓vlook_t, ↓vlook_f, guard_none, ↓vrun_nil, ↓code_region, ↓code_seq, ↓code_block, ↓onNormal_normal, load_ptr, vld_agg, blk_zero, box_eq, allOne_nil, allOne_cons, one_pv, enum_nil, enum_cons, evG_eq, ↓vrun_cons, ↓run1_some, ↓runG_true, ↓run2_none, ↓run2_some, ↓run3_some, at_hp, List.map_nil, dcells, List.toList_toArray, List.length_cons, List.length_nil, List.map_cons, List.map_nil, List.nil_append, List.append_nil, List.take_succ_cons, List.take_nil, List.drop_zero, Option.map_some, ↓reduceIte, Nat.reduceAdd, Nat.reduceLT, Nat.reduceBEq, Int.reduceLT, Int.reduceAdd, Int.reduceBEq, Nat.zero_add, true_and, and_self, Bool.true_and, Bool.and_self, beq_self_eq_true, Nat.le_refl, Try.vt29, dec_t, Try.f19, Rm.d]
  refine vc_pure hv rfl ?_
  by_cases ho : r.okB = true
  · have hok := (ok_iff r).1 ho
    rw [if_pos ho]
    by_cases h1 : y < 0
    · rw [if_pos (.inl h1)]
      simp (config := { maxSteps := 2000000 }) (implicitDefEqProofs := false) (disch := first | omega | assumption | (simp only []; done) | fail) only [vop_move, vcallee_move, vop_assign, vcallee_assign, vop_pick, vcallee_pick, vop_binOp, vcallee_binOp, vop_unOp, vcallee_unOp, bin2_int, vpick_bool, strip_pv, strip_tup, optV_none, ev_tmp, ev_const, ofConst_int, ofConst_bool, put_some, at_mk, fits_some, ↓look_cons, ↓vlook_t, ↓vlook_f, guard_none, guard_some, vgof_bool, ↓vrun_nil, ↓code_region, ↓code_seq, ↓code_ret, ↓onNormal_normal, ↓onNormal_ret, ↓onBlock_ret, frz_tup, frzT_pv, allSome_nil, allSome_cons, frzHeap_zero, res_two, vres_tmp, bin_int, int_lss, un_not, evG_eq, ↓vrun_cons, ↓run1_some, ↓runG_true, ↓runG_false, ↓run2_none, ↓run3_some, ↓runK_eq, ↓code_cond, ↓vtest_bool, ↓vbr_true, ↓vbr_false, ↓vpost_ret, vfin_some, vfin2_some, at_hp, pickV_t, List.map_nil, List.getElem?_cons_zero, List.getElem?_cons_succ, List.map_cons, List.map_nil, Option.map_some, Option.bind_some, Nat.reduceLT, Nat.reduceBEq, Int.reduceLT, Int.reduceBEq, and_self, Bool.not_true, Bool.and_self, b_beq_f, beq_self_eq_true, DV.wk.go, dec_t, Ret, DV.nums, DV.nums.go, ho, h1]
    · by_cases h2 : r.pages ≤ y
      · rw [if_pos (.inr h2)]
        simp (config := { maxSteps := 2000000 }) (implicitDefEqProofs := false) (disch := first | omega | assumption | (simp only []; done) | fail) only [vop_move, vcallee_move, vop_assign, vcallee_assign, vop_pick, vcallee_pick, vop_load, vcallee_load, vop_binOp, vcallee_binOp, vop_unOp, vcallee_unOp, vop_fieldAddr, vcallee_fieldAddr, bin2_tmp, bin2_int, vpick_bool, strip_pv, strip_ptr, strip_opt, vstr_true, optV_none, optV_some, pickV_bool, ev_tmp, ev_const, ofConst_int, ofConst_bool, put_some, at_mk, fits_some, ↓look_cons, ↓vlook_t, ↓vlook_f, guard_none, guard_some, vgof_bool, ↓vrun_nil, ↓code_region, ↓code_seq, ↓code_ret, ↓onNormal_normal, ↓onNormal_ret, ↓onBlock_ret, frz_tup, frzT_pv, allSome_nil, allSome_cons, frzHeap_zero, res_two, vres_tmp, load_ptr, vld_one, blk_zero, faddr_ptr, vfap_some, bin_int, int_lss, int_geq, un_not, evG_eq, ↓vrun_cons, ↓run1_some, ↓runG_true, ↓run2_none, ↓run3_some, ↓runK_eq, ↓code_cond, ↓vtest_bool, ↓vbr_true, ↓vbr_false, ↓vpost_ret, vfin_some, vfin2_some, at_hp, List.map_nil, List.getElem?_cons_zero, List.getElem?_cons_succ, List.map_cons, List.map_nil, Option.map_some, Option.bind_some, ↓reduceIte, reduceCtorEq, Nat.reduceLT, Nat.reduceBEq, Int.reduceLT, Int.reduceBEq, Nat.add_zero, decide_false, and_self, or_true, Bool.not_true, Bool.not_false, Bool.or_true, Bool.and_self, Bool.cond_self, beq_self_eq_true, DV.wk.go, Try.vt3, Try.vfield29x0, dec_t, Ret, DV.nums, DV.nums.go, ho, h1, h2]
      · rw [if_neg (by omega)]
        simp (config := { maxSteps := 2000000 }) (implicitDefEqProofs := false) (disch := first | omega | assumption | (simp only []; done) | fail) only [vop_move, vcallee_move, vop_assign, vcallee_assign, vop_pick, vcallee_pick, vop_load, vcallee_load, vop_binOp, vcallee_binOp, vop_unOp, vcallee_unOp, vop_fieldAddr, vcallee_fieldAddr, vcallee_value, vcal_fn, bin2_tmp, bin2_int, vpick_bool, strip_pv, strip_ptr, strip_agg, strip_fn, strip_opt, vstr_true, optV_none, optV_some, pickV_bool, ev_tmp, ev_const, ev_func, ofConst_int, ofConst_bool, put_some, at_mk, fits_some, ↓look_cons, ↓vlook_t, ↓vlook_f, guard_none, guard_some, vgof_bool, ↓vrun_nil, ↓code_skip, ↓code_region, ↓code_seq, ↓onNormal_normal, ↓onBlock_normal, load_ptr, vld_one, vld_agg, blk_zero, faddr_ptr, vfap_some, bin_int, int_lss, int_geq, un_not, evG_eq, ↓vrun_cons, ↓run1_some, ↓runG_true, ↓run2_none, ↓run2_some, ↓run3_some, ↓runK_eq, ↓code_cond, ↓vtest_bool, ↓vbr_false, at_hp, List.map_nil, List.getElem?_cons_zero, List.getElem?_cons_succ, List.length_cons, List.length_nil, List.map_cons, List.map_nil, List.nil_append, List.append_nil, List.take_succ_cons, List.take_nil, List.drop_zero, Option.map_some, Option.bind_some, ↓reduceIte, reduceCtorEq, Nat.reduceAdd, Nat.reduceLT, Nat.reduceBEq, Int.reduceLT, Int.reduceAdd, Int.reduceBEq, Nat.zero_add, Nat.add_zero, decide_false, true_and, or_true, Bool.not_true, Bool.not_false, Bool.or_true, Bool.true_and, cond_false, beq_self_eq_true, Nat.le_refl, Try.vt3, Try.vt29, Try.vfield29x0, dec_t, ho, h1, h2]
        refine vc_pure (place_v r hok hs y ⟨by omega, by omega⟩) rfl ?_
        simp (config := { maxSteps := 2000000 }) (implicitDefEqProofs := false) (disch := first | omega | assumption | (simp only []; done) | fail) only [vop_move, vcallee_move, vop_assign, vcallee_assign, vop_extract, vcallee_extract, strip_pv, strip_tup, optV_none, ev_tmp, put_some, at_mk, fits_some, ↓look_cons, ↓vlook_t, ↓vlook_f, guard_none, ↓vrun_nil, ↓code_region, ↓code_seq, ↓onNormal_normal, ext_tup, evG_eq, ↓vrun_cons, ↓run1_some, ↓runG_true, ↓run2_none, ↓run3_some, ↓runK_eq, ↓code_cond, ↓vtest_bool, at_hp, List.getElem?_cons_zero, List.getElem?_cons_succ, Option.map_some, Nat.reduceLT, Nat.reduceBEq, Int.reduceLT, Int.reduceBEq, true_and, Bool.true_and, beq_self_eq_true, dec_t]
        have hf := pfound_find r.places hok.pasc y
        by_cases hp : pfound r.places y = true
        · rw [if_pos hp] at hf
          cases hx : r.places[plo r.places y]? with
          | none => unfold pfound at hp; rw [hx] at hp; simp at hp
          | some p =>
            obtain ⟨hlt, he⟩ := List.getElem?_eq_some_iff.1 hx
            have hg : (fz encP r.places)[plo r.places y]? = some [.lit (.int .i64 p.pg), .lit (.int .i64 p.ad)] := by rw [← he]; exact fz_at encP r.places _ hlt
            rw [hx] at hf
            simp (config := { maxSteps := 2000000 }) (implicitDefEqProofs := false) (disch := first | omega | assumption | (simp only [List.length_cons, List.length_nil, Nat.zero_add, Nat.reduceAdd]; done) | fail) only [vop_move, vcallee_move, vop_assign, vcallee_assign, vop_load, vcallee_load, vop_fieldAddr, vcallee_fieldAddr, vop_indexAddr, vcallee_indexAddr, strip_pv, strip_ptr, strip_ip, optV_none, ev_tmp, ev_const, ofConst_int, put_some, at_mk, fits_some, ↓look_cons, ↓vlook_t, ↓vlook_f, guard_none, ↓vrun_nil, ↓code_region, ↓code_seq, ↓code_ret, ↓onNormal_normal, ↓onNormal_ret, frz_tup, frzT_pv, allSome_nil, allSome_cons, frzHeap_zero, res_two, vres_tmp, load_ptr, load_ip, vld_one, vldp_one, blk_zero, faddr_ptr, vfap_some, faddr_ip, vfai_some, iaddr_sl, vias_some, evG_eq, ↓vrun_cons, ↓run1_some, ↓runG_true, ↓run2_none, ↓run3_some, ↓vbr_true, ↓vpost_ret, vfin_some, vfin2_some, at_hp, List.map_nil, List.getElem?_cons_zero, List.getElem?_cons_succ, List.map_cons, List.map_nil, List.drop_succ_cons, List.drop_zero, Option.map_some, ↓reduceIte, reduceCtorEq, Nat.reduceLT, Nat.reduceBEq, Int.reduceLT, Int.reduceBEq, Int.toNat_natCast, Nat.zero_add, true_and, and_self, Bool.true_and, Bool.and_self, beq_self_eq_true, DV.wk.go, Try.vt3, Try.vt26, Try.velem26, Try.vfield29x2, Try.vfield73x1, dec_t, Ret, DV.nums, DV.nums.go, hp, hg]
            rw [Rm.whereS, hf]
        · rw [if_neg hp] at hf
          have hp' : pfound r.places y = false := by simpa using hp
          simp (config := { maxSteps := 2000000 }) (implicitDefEqProofs := false) (disch := first | omega | assumption | (simp only []; done) | fail) only [vop_move, vcallee_move, vop_assign, vcallee_assign, strip_pv, optV_none, ev_tmp, ev_const, ofConst_int, put_some, at_mk, fits_some, ↓look_cons, ↓vlook_t, ↓vlook_f, guard_none, ↓vrun_nil, ↓code_skip, ↓code_region, ↓code_seq, ↓code_ret, ↓onNormal_normal, frz_tup, frzT_pv, allSome_nil, allSome_cons, frzHeap_zero, res_two, vres_tmp, evG_eq, ↓vrun_cons, ↓run1_some, ↓runG_true, ↓run2_none, ↓run3_some, ↓vbr_false, ↓vpost_ret, vfin_some, vfin2_some, at_hp, List.map_nil, List.map_cons, List.map_nil, Option.map_some, Nat.reduceLT, Nat.reduceBEq, Int.reduceLT, Int.reduceBEq, true_and, and_self, Bool.true_and, Bool.and_self, beq_self_eq_true, DV.wk.go, dec_t, Ret, DV.nums, DV.nums.go, hp']
          rw [Rm.whereS, hf]
  · have ho' : r.okB = false := by simpa using ho
    rw [if_neg ho]
    simp (config := { maxSteps := 2000000 }) (implicitDefEqProofs := false) (disch := first | omega | assumption | (simp only []; done) | fail) only [vop_assign, vcallee_assign, vop_unOp, vcallee_unOp, strip_pv, optV_none, ev_tmp, ev_const, ofConst_int, put_some, at_mk, fits_some, ↓look_cons, ↓vlook_t, ↓vlook_f, guard_none, ↓vrun_nil, ↓code_region, ↓code_seq, ↓code_ret, ↓onNormal_normal, ↓onNormal_ret, ↓onBlock_ret, frz_tup, frzT_pv, allSome_nil, allSome_cons, frzHeap_zero, res_two, vres_tmp, un_not, evG_eq, ↓vrun_cons, ↓run1_some, ↓runG_true, ↓run2_none, ↓run3_some, ↓runK_eq, ↓code_cond, ↓vtest_bool, ↓vbr_true, ↓vpost_ret, vfin_some, vfin2_some, at_hp, List.map_nil, List.map_cons, List.map_nil, Option.map_some, Nat.reduceLT, Nat.reduceBEq, Int.reduceLT, Int.reduceBEq, and_self, Bool.not_false, Bool.and_self, beq_self_eq_true, DV.wk.go, dec_t, Ret, DV.nums, DV.nums.go, ho']

theorem owner1_v (p : Pl) (a : Int) : VCalls Try.prog 44 [.agg [.int .i64 p.pg, .int .i64 p.ad], .ip [.lit (.int .i64 a)]] [] (Ret (.bool (p.ad == a))) := by
  refine vcalls_drop (fn := Try.f44) Try.func44 rfl (by kernel_rfl) (by simp [Try.f44]) ?_
  simp (config := { maxSteps := 2000000 }) (implicitDefEqProofs := false) (disch := first | omega | assumption | (simp only []; done) | fail) only [vop_assign, vcallee_assign, vop_box, vcallee_box, vop_load, vcallee_load, vop_binOp, vcallee_binOp, vop_fieldAddr, vcallee_fieldAddr, bin2_tmp, strip_pv, strip_ptr, strip_ip, strip_agg, optV_none, ev_tmp, ev_const, ofConst_bool, put_some, at_mk, fits_some, ↓look_cons, ↓vlook_t, ↓vlook_f, guard_none, ↓vrun_nil, ↓code_region, ↓code_seq, ↓code_ret, ↓onNormal_normal, frz_pv, frzHeap_zero, res_one, vres_tmp, load_ptr, load_ip, vld_one, vldp_one, blk_zero, box_eq, allOne_nil, allOne_cons, one_pv, faddr_ptr, vfap_some, bin_int, int_eql, enum_nil, enum_cons, evG_eq, ↓vrun_cons, ↓run1_some, ↓runG_true, ↓run2_none, ↓run3_some, ↓vpost_ret, vfin_some, vfin2_some, at_hp, dcells, List.toList_toArray, List.getElem?_cons_zero, List.getElem?_cons_succ, List.length_nil, List.nil_append, Option.map_some, ↓reduceIte, reduceCtorEq, Nat.reduceAdd, Nat.reduceLT, Nat.reduceBEq, Int.reduceLT, Int.reduceAdd, Int.reduceBEq, Nat.zero_add, and_self, Bool.and_self, beq_self_eq_true, Try.vt3, Try.vfield73x1, dec_t, Ret, DV.nums, Try.f44]
theorem idxP_find {α : Type} (l : List α) (p : α → Bool) : (idxP l p = -1 ∧ l.find? p = none) ∨ ∃ i, ∃ h : i < l.length, idxP l p = i ∧ l.find? p = some l[i] := by
  by_cases ha : l.any p = true
  · obtain ⟨x, hm, hp⟩ := List.any_eq_true.1 ha
    have hlt := List.findIdx_lt_length_of_exists ⟨x, hm, hp⟩
    refine .inr ⟨l.findIdx p, hlt, by rw [idxP, if_pos ha], ?_⟩
    rw [List.find?_eq_some_iff_getElem]
    refine ⟨List.findIdx_getElem (w := hlt), _, hlt, rfl, fun j hj => ?_⟩
    have := List.not_of_lt_findIdx hj
    simpa using this
  · refine .inl ⟨by rw [idxP, if_neg ha], ?_⟩
    rw [List.find?_eq_none]
    intro x hx hp
    exact ha (List.any_eq_true.2 ⟨x, hx, hp⟩)
def ownD : Option Int → DV
  | none => .tup [.int .i64 0, .bool false]
  | some n => .tup [.int .i64 n, .bool true]
theorem owner_v (r : Rm) (hs : r.sm) (a : Int) : VCalls Try.prog 21 [.agg r.d, .int .i64 a] [] (Ret (ownD (if r.okB = true then r.ownerS a else none))) := by
  refine vcalls_drop (fn := Try.f21) Try.func21 rfl (by kernel_rfl) (by simp [Try.f21]) ?_
  have hv := valid_v r hs
  by_cases ho : r.okB = true
  · have hok := (ok_iff r).1 ho
    have hb := bad_v r hs.2 hok.basc a
    rw [if_pos ho]
    rw [ho] at hv
    unfold Rm.ownerS
    by_cases h1 : a < 0
    · rw [if_pos (.inl h1)]
      simp (config := { maxSteps := 2000000 }) (implicitDefEqProofs := false) (disch := first | omega | assumption | (simp only []; done) | fail) only [vop_assign, vcallee_assign, vop_box, vcallee_box, vop_load, vcallee_load, vcallee_value, vcal_fn, strip_pv, strip_ptr, strip_agg, strip_fn, optV_none, ev_tmp, ev_const, ev_func, ofConst_int, ofConst_bool, put_some, at_mk, fits_some, ↓look_cons, ↓vlook_t, ↓vlook_f, guard_none, ↓vrun_nil, ↓code_region, ↓code_seq, ↓onNormal_normal, load_ptr, vld_agg, blk_zero, box_eq, allOne_nil, allOne_cons, one_pv, enum_nil, enum_cons, evG_eq, ↓vrun_cons, ↓run1_some, ↓runG_true, ↓run2_none, ↓run2_some, ↓run3_some, at_hp, List.map_nil, dcells, List.toList_toArray, List.length_cons, List.length_nil, List.map_cons, List.map_nil, List.cons_append, List.nil_append, List.append_nil, List.take_succ_cons, List.take_nil, List.drop_zero, Option.map_some, ↓reduceIte, Nat.reduceAdd, Nat.reduceLT, Nat.reduceBEq, Int.reduceLT, Int.reduceAdd, Int.reduceBEq, Nat.zero_add, true_and, and_self, Bool.true_and, Bool.and_self, beq_self_eq_true, Nat.le_refl, Try.vt29, dec_t, Try.f21, Rm.d]
      refine vc_pure hv rfl ?_
      simp (config := { maxSteps := 2000000 }) (implicitDefEqProofs := false) (disch := first | omega | assumption | (simp only []; done) | fail) only [vop_move, vcallee_move, vop_assign, vcallee_assign, vop_pick, vcallee_pick, vop_load, vcallee_load, vop_binOp, vcallee_binOp, vop_unOp, vcallee_unOp, bin2_int, vpick_bool, strip_pv, strip_ptr, strip_tup, strip_opt, vstr_true, optV_none, optV_some, pickV_bool, ev_tmp, ev_const, ofConst_int, ofConst_bool, put_some, at_mk, fits_some, ↓look_cons, ↓vlook_t, ↓vlook_f, guard_none, guard_some, vgof_bool, ↓vrun_nil, ↓code_region, ↓code_seq, ↓code_ret, ↓onNormal_normal, ↓onNormal_ret, frz_tup, frzT_pv, allSome_nil, allSome_cons, frzHeap_zero, res_two, vres_tmp, load_ptr, vld_one, blk_zero, blk_succ, bin_int, int_lss, un_not, evG_eq, ↓vrun_cons, ↓run1_some, ↓runG_true, ↓runG_false, ↓run2_none, ↓run3_some, ↓runK_eq, ↓code_cond, ↓vtest_bool, ↓vbr_true, ↓vpost_ret, vfin_some, vfin2_some, at_hp, pickV_t, List.map_nil, List.getElem?_cons_zero, List.getElem?_cons_succ, List.map_cons, List.map_nil, Option.map_some, Option.bind_some, Nat.reduceLT, Nat.reduceBEq, Int.reduceLT, Int.reduceBEq, true_and, and_self, or_true, Bool.not_true, Bool.not_false, Bool.or_true, Bool.true_and, Bool.and_self, b_beq_f, Bool.cond_self, beq_self_eq_true, DV.wk.go, Try.vt3, dec_t, Ret, DV.nums, DV.nums.go, h1]
      simp (config := { maxSteps := 2000000 }) (implicitDefEqProofs := false) (disch := first | omega | assumption) only [ownD]
    by_cases h2 : a ∈ r.bad
    · rw [if_pos (.inr h2)]
      simp (config := { maxSteps := 2000000 }) (implicitDefEqProofs := false) (disch := first | omega | assumption | (simp only []; done) | fail) only [vop_assign, vcallee_assign, vop_box, vcallee_box, vop_load, vcallee_load, vcallee_value, vcal_fn, strip_pv, strip_ptr, strip_agg, strip_fn, optV_none, ev_tmp, ev_const, ev_func, ofConst_int, ofConst_bool, put_some, at_mk, fits_some, ↓look_cons, ↓vlook_t, ↓vlook_f, guard_none, ↓vrun_nil, ↓code_region, ↓code_seq, ↓onNormal_normal, load_ptr, vld_agg, blk_zero, box_eq, allOne_nil, allOne_cons, one_pv, enum_nil, enum_cons, evG_eq, ↓vrun_cons, ↓run1_some, ↓runG_true, ↓run2_none, ↓run2_some, ↓run3_some, at_hp, List.map_nil, dcells, List.toList_toArray, List.length_cons, List.length_nil, List.map_cons, List.map_nil, List.cons_append, List.nil_append, List.append_nil, List.take_succ_cons, List.take_nil, List.drop_zero, Option.map_some, ↓reduceIte, Nat.reduceAdd, Nat.reduceLT, Nat.reduceBEq, Int.reduceLT, Int.reduceAdd, Int.reduceBEq, Nat.zero_add, true_and, and_self, Bool.true_and, Bool.and_self, beq_self_eq_true, Nat.le_refl, Try.vt29, dec_t, Try.f21, Rm.d]
      refine vc_pure hv rfl ?_
      simp (config := { maxSteps := 2000000 }) (implicitDefEqProofs := false) (disch := first | omega | assumption | (simp only []; done) | fail) only [vop_move, vcallee_move, vop_pick, vcallee_pick, vop_load, vcallee_load, vop_binOp, vcallee_binOp, vop_unOp, vcallee_unOp, vcallee_value, vcal_fn, bin2_int, vpick_bool, strip_pv, strip_ptr, strip_fn, strip_opt, vstr_true, optV_none, optV_some, pickV_bool, ev_tmp, ev_const, ev_func, ofConst_int, ofConst_bool, put_some, at_mk, fits_some, ↓look_cons, ↓vlook_t, ↓vlook_f, guard_none, guard_some, vgof_bool, load_ptr, vld_one, vld_agg, blk_zero, blk_succ, bin_int, int_lss, un_not, evG_eq, ↓vrun_cons, ↓run1_some, ↓runG_true, ↓run2_none, ↓run2_some, ↓run3_some, ↓runK_eq, at_hp, List.map_nil, List.getElem?_cons_zero, List.getElem?_cons_succ, List.length_cons, List.length_nil, List.map_cons, List.map_nil, List.nil_append, List.append_nil, List.take_succ_cons, List.take_nil, List.drop_zero, Option.map_some, Option.bind_some, ↓reduceIte, Nat.reduceAdd, Nat.reduceLT, Nat.reduceBEq, Int.reduceLT, Int.reduceAdd, Int.reduceBEq, Nat.zero_add, decide_false, true_and, or_true, Bool.not_true, Bool.not_false, Bool.or_true, Bool.true_and, cond_false, beq_self_eq_true, Nat.le_refl, Try.vt3, Try.vt29, dec_t, h1]
      refine vc_pure (hb) rfl ?_
      simp (config := { maxSteps := 2000000 }) (implicitDefEqProofs := false) (disch := first | omega | assumption | (simp only []; done) | fail) only [vop_assign, vcallee_assign, vop_pick, vcallee_pick, vpick_bool, strip_pv, strip_opt, vstr_true, optV_none, optV_some, pickV_bool, ev_tmp, ev_const, ofConst_int, ofConst_bool, put_some, at_mk, fits_some, ↓look_cons, ↓vlook_t, ↓vlook_f, guard_none, ↓vrun_nil, ↓code_region, ↓code_seq, ↓code_ret, ↓onNormal_normal, ↓onNormal_ret, frz_tup, frzT_pv, allSome_nil, allSome_cons, frzHeap_zero, res_two, vres_tmp, evG_eq, ↓vrun_cons, ↓run1_some, ↓runG_true, ↓run2_none, ↓run3_some, ↓runK_eq, ↓code_cond, ↓vtest_bool, ↓vbr_true, ↓vpost_ret, vfin_some, vfin2_some, at_hp, List.map_nil, List.map_cons, List.map_nil, Option.map_some, Nat.reduceLT, Nat.reduceBEq, Int.reduceLT, Int.reduceBEq, and_self, or_true, Bool.not_true, Bool.not_false, Bool.or_true, Bool.and_self, Bool.cond_self, beq_self_eq_true, DV.wk.go, dec_t, Ret, DV.nums, DV.nums.go, h2, ownD]
    rw [if_neg (by simp [h1, h2])]
    by_cases h3 : a < r.pages
    · rw [if_pos h3]
      simp (config := { maxSteps := 2000000 }) (implicitDefEqProofs := false) (disch := first | omega | assumption | (simp only []; done) | fail) only [vop_assign, vcallee_assign, vop_box, vcallee_box, vop_load, vcallee_load, vcallee_value, vcal_fn, strip_pv, strip_ptr, strip_agg, strip_fn, optV_none, ev_tmp, ev_const, ev_func, ofConst_int, ofConst_bool, put_some, at_mk, fits_some, ↓look_cons, ↓vlook_t, ↓vlook_f, guard_none, ↓vrun_nil, ↓code_region, ↓code_seq, ↓onNormal_normal, load_ptr, vld_agg, blk_zero, box_eq, allOne_nil, allOne_cons, one_pv, enum_nil, enum_cons, evG_eq, ↓vrun_cons, ↓run1_some, ↓runG_true, ↓run2_none, ↓run2_some, ↓run3_some, at_hp, List.map_nil, dcells, List.toList_toArray, List.length_cons, List.length_nil, List.map_cons, List.map_nil, List.cons_append, List.nil_append, List.append_nil, List.take_succ_cons, List.take_nil, List.drop_zero, Option.map_some, ↓reduceIte, Nat.reduceAdd, Nat.reduceLT, Nat.reduceBEq, Int.reduceLT, Int.reduceAdd, Int.reduceBEq, Nat.zero_add, true_and, and_self, Bool.true_and, Bool.and_self, beq_self_eq_true, Nat.le_refl, Try.vt29, dec_t, Try.f21, Rm.d]
      refine vc_pure hv rfl ?_
      simp (config := { maxSteps := 2000000 }) (implicitDefEqProofs := false) (disch := first | omega | assumption | (simp only []; done) | fail) only [vop_move, vcallee_move, vop_pick, vcallee_pick, vop_load, vcallee_load, vop_binOp, vcallee_binOp, vop_unOp, vcallee_unOp, vcallee_value, vcal_fn, bin2_int, vpick_bool, strip_pv, strip_ptr, strip_fn, strip_opt, vstr_true, optV_none, optV_some, pickV_bool, ev_tmp, ev_const, ev_func, ofConst_int, ofConst_bool, put_some, at_mk, fits_some, ↓look_cons, ↓vlook_t, ↓vlook_f, guard_none, guard_some, vgof_bool, load_ptr, vld_one, vld_agg, blk_zero, blk_succ, bin_int, int_lss, un_not, evG_eq, ↓vrun_cons, ↓run1_some, ↓runG_true, ↓run2_none, ↓run2_some, ↓run3_some, ↓runK_eq, at_hp, List.map_nil, List.getElem?_cons_zero, List.getElem?_cons_succ, List.length_cons, List.length_nil, List.map_cons, List.map_nil, List.nil_append, List.append_nil, List.take_succ_cons, List.take_nil, List.drop_zero, Option.map_some, Option.bind_some, ↓reduceIte, Nat.reduceAdd, Nat.reduceLT, Nat.reduceBEq, Int.reduceLT, Int.reduceAdd, Int.reduceBEq, Nat.zero_add, decide_false, true_and, or_true, Bool.not_true, Bool.not_false, Bool.or_true, Bool.true_and, cond_false, beq_self_eq_true, Nat.le_refl, Try.vt3, Try.vt29, dec_t, h1]
      refine vc_pure (hb) rfl ?_
      simp (config := { maxSteps := 2000000 }) (implicitDefEqProofs := false) (disch := first | omega | assumption | (simp only []; done) | fail) only [vop_assign, vcallee_assign, vop_pick, vcallee_pick, vop_load, vcallee_load, vop_binOp, vcallee_binOp, vop_fieldAddr, vcallee_fieldAddr, bin2_tmp, vpick_bool, strip_pv, strip_ptr, strip_opt, vstr_true, optV_none, optV_some, pickV_bool, ev_tmp, ev_const, ofConst_bool, put_some, at_mk, fits_some, ↓look_cons, ↓vlook_t, ↓vlook_f, guard_none, ↓vrun_nil, ↓code_skip, ↓code_region, ↓code_seq, ↓code_ret, ↓onNormal_normal, ↓onNormal_ret, frz_tup, frzT_pv, allSome_nil, allSome_cons, frzHeap_zero, res_two, vres_tmp, load_ptr, vld_one, blk_zero, blk_succ, faddr_ptr, vfap_some, bin_int, int_lss, evG_eq, ↓vrun_cons, ↓run1_some, ↓runG_true, ↓run2_none, ↓run3_some, ↓runK_eq, ↓code_cond, ↓vtest_bool, ↓vbr_true, ↓vbr_false, ↓vpost_ret, vfin_some, vfin2_some, at_hp, List.map_nil, List.getElem?_cons_zero, List.map_cons, List.map_nil, Option.map_some, ↓reduceIte, reduceCtorEq, Nat.reduceLT, Nat.reduceBEq, Int.reduceLT, Int.reduceBEq, Nat.add_zero, decide_false, and_self, or_true, Bool.not_true, Bool.not_false, Bool.or_true, Bool.and_self, cond_false, beq_self_eq_true, DV.wk.go, Try.vt3, Try.vfield29x0, dec_t, Ret, DV.nums, DV.nums.go, h2, h3, ownD]
    rw [if_neg h3]
    have hi := indexFP_v r.places (by have := hs.1; omega) 44 [.ip [.lit (.int .i64 a)]] rfl (fun p => p.ad == a) (fun p _ => owner1_v p a)
    simp (config := { maxSteps := 2000000 }) (implicitDefEqProofs := false) (disch := first | omega | assumption | (simp only []; done) | fail) only [vop_assign, vcallee_assign, vop_box, vcallee_box, vop_load, vcallee_load, vcallee_value, vcal_fn, strip_pv, strip_ptr, strip_agg, strip_fn, optV_none, ev_tmp, ev_const, ev_func, ofConst_int, ofConst_bool, put_some, at_mk, fits_some, ↓look_cons, ↓vlook_t, ↓vlook_f, guard_none, ↓vrun_nil, ↓code_region, ↓code_seq, ↓onNormal_normal, load_ptr, vld_agg, blk_zero, box_eq, allOne_nil, allOne_cons, one_pv, enum_nil, enum_cons, evG_eq, ↓vrun_cons, ↓run1_some, ↓runG_true, ↓run2_none, ↓run2_some, ↓run3_some, at_hp, List.map_nil, dcells, List.toList_toArray, List.length_cons, List.length_nil, List.map_cons, List.map_nil, List.cons_append, List.nil_append, List.append_nil, List.take_succ_cons, List.take_nil, List.drop_zero, Option.map_some, ↓reduceIte, Nat.reduceAdd, Nat.reduceLT, Nat.reduceBEq, Int.reduceLT, Int.reduceAdd, Int.reduceBEq, Nat.zero_add, true_and, and_self, Bool.true_and, Bool.and_self, beq_self_eq_true, Nat.le_refl, Try.vt29, dec_t, Try.f21, Rm.d]
    refine vc_pure hv rfl ?_
    simp (config := { maxSteps := 2000000 }) (implicitDefEqProofs := false) (disch := first | omega | assumption | (simp only []; done) | fail) only [vop_move, vcallee_move, vop_pick, vcallee_pick, vop_load, vcallee_load, vop_binOp, vcallee_binOp, vop_unOp, vcallee_unOp, vcallee_value, vcal_fn, bin2_int, vpick_bool, strip_pv, strip_ptr, strip_fn, strip_opt, vstr_true, optV_none, optV_some, pickV_bool, ev_tmp, ev_const, ev_func, ofConst_int, ofConst_bool, put_some, at_mk, fits_some, ↓look_cons, ↓vlook_t, ↓vlook_f, guard_none, guard_some, vgof_bool, load_ptr, vld_one, vld_agg, blk_zero, blk_succ, bin_int, int_lss, un_not, evG_eq, ↓vrun_cons, ↓run1_some, ↓runG_true, ↓run2_none, ↓run2_some, ↓run3_some, ↓runK_eq, at_hp, List.map_nil, List.getElem?_cons_zero, List.getElem?_cons_succ, List.length_cons, List.length_nil, List.map_cons, List.map_nil, List.nil_append, List.append_nil, List.take_succ_cons, List.take_nil, List.drop_zero, Option.map_some, Option.bind_some, ↓reduceIte, Nat.reduceAdd, Nat.reduceLT, Nat.reduceBEq, Int.reduceLT, Int.reduceAdd, Int.reduceBEq, Nat.zero_add, decide_false, true_and, or_true, Bool.not_true, Bool.not_false, Bool.or_true, Bool.true_and, cond_false, beq_self_eq_true, Nat.le_refl, Try.vt3, Try.vt29, dec_t, h1]
    refine vc_pure (hb) rfl ?_
    simp (config := { maxSteps := 2000000 }) (implicitDefEqProofs := false) (disch := first | omega | assumption | (simp only []; done) | fail) only [vop_pick, vcallee_pick, vop_load, vcallee_load, vop_binOp, vcallee_binOp, vop_makeFunc, vcallee_makeFunc, vop_fieldAddr, vcallee_fieldAddr, vcallee_value, vcal_fn, bin2_tmp, vpick_bool, strip_pv, strip_ptr, strip_fn, strip_opt, vstr_true, optV_none, optV_some, pickV_bool, ev_tmp, ev_const, ev_func, ofConst_bool, put_some, at_mk, fits_some, ↓look_cons, ↓vlook_t, ↓vlook_f, guard_none, ↓vrun_nil, ↓code_skip, ↓code_region, ↓code_seq, ↓onNormal_normal, load_ptr, vld_one, blk_zero, blk_succ, faddr_ptr, vfap_some, bin_int, int_lss, evG_eq, ↓vrun_cons, ↓run1_some, ↓runG_true, ↓run2_none, ↓run2_some, ↓run3_some, ↓runK_eq, ↓code_cond, ↓vtest_bool, ↓vbr_false, at_hp, List.map_nil, List.getElem?_cons_zero, List.getElem?_cons_succ, List.map_cons, List.map_nil, List.nil_append, List.append_nil, Option.map_some, ↓reduceIte, reduceCtorEq, Nat.reduceLT, Nat.reduceBEq, Int.reduceLT, Int.reduceBEq, Nat.zero_add, Nat.add_zero, decide_false, true_and, or_true, Bool.not_true, Bool.not_false, Bool.or_true, Bool.true_and, cond_false, beq_self_eq_true, Try.vt3, Try.vt26, Try.vfield29x0, Try.vfield29x2, dec_t, h2, h3]
    refine vc_lendA hi (by simp (config := { maxSteps := 2000000 }) (implicitDefEqProofs := false) (disch := first | omega | assumption) only [allSome_nil, allSome_cons, blk_zero, blk_succ, List.map_nil, List.map_cons, List.map_nil, List.drop_zero, Option.map_some, frzP_pv, frzA_pv, frzA_fn, frzF_some, frzB_ptrE, frzQ_some]) rfl ?_
    rcases idxP_find r.places (fun p => p.ad == a) with ⟨e1, e2⟩ | ⟨i, hlt, e1, e2⟩
    · rw [e1, e2]
      simp (config := { maxSteps := 2000000 }) (implicitDefEqProofs := false) (disch := first | omega | assumption | (simp only []; done) | fail) only [vop_move, vcallee_move, vop_assign, vcallee_assign, vop_binOp, vcallee_binOp, bin2_int, strip_pv, optV_none, ev_tmp, ev_const, ofConst_int, ofConst_bool, put_some, at_mk, fits_some, ↓look_cons, ↓vlook_t, ↓vlook_f, guard_none, ↓vrun_nil, ↓code_region, ↓code_seq, ↓code_ret, ↓onNormal_normal, ↓onNormal_ret, frz_tup, frzT_pv, allSome_nil, allSome_cons, frzHeap_zero, res_two, vres_tmp, bin_int, int_lss, evG_eq, ↓vrun_cons, ↓run1_some, ↓runG_true, ↓run2_none, ↓run3_some, ↓runK_eq, ↓code_cond, ↓vtest_bool, ↓vbr_true, ↓vpost_ret, vfin_some, vfin2_some, at_hp, List.map_nil, List.map_cons, List.map_nil, Option.map_some, Option.map_none, Nat.reduceLT, Nat.reduceBEq, Int.reduceLT, Int.reduceNeg, Int.reduceBEq, and_self, Bool.and_self, beq_self_eq_true, DV.wk.go, dec_t, Ret, DV.nums, DV.nums.go, ownD]
    · have hg : (fz encP r.places)[i]? = some [.lit (.int .i64 r.places[i].pg), .lit (.int .i64 r.places[i].ad)] := fz_at encP r.places i hlt
      rw [e1, e2]
      simp (config := { maxSteps := 2000000 }) (implicitDefEqProofs := false) (disch := first | omega | assumption | (simp only [List.length_cons, List.length_nil, Nat.zero_add, Nat.reduceAdd]; done) | fail) only [vop_move, vcallee_move, vop_assign, vcallee_assign, vop_load, vcallee_load, vop_binOp, vcallee_binOp, vop_fieldAddr, vcallee_fieldAddr, vop_indexAddr, vcallee_indexAddr, bin2_int, strip_pv, strip_ptr, strip_ip, optV_none, ev_tmp, ev_const, ofConst_int, ofConst_bool, put_some, at_mk, fits_some, ↓look_cons, ↓vlook_t, ↓vlook_f, guard_none, ↓vrun_nil, ↓code_skip, ↓code_region, ↓code_seq, ↓code_ret, ↓onNormal_normal, frz_tup, frzT_pv, allSome_nil, allSome_cons, frzHeap_zero, res_two, vres_tmp, load_ptr, load_ip, vld_one, vldp_one, blk_zero, faddr_ptr, vfap_some, faddr_ip, vfai_some, iaddr_sl, vias_some, bin_int, int_lss, evG_eq, ↓vrun_cons, ↓run1_some, ↓runG_true, ↓run2_none, ↓run3_some, ↓runK_eq, ↓code_cond, ↓vtest_bool, ↓vbr_false, ↓vpost_ret, vfin_some, vfin2_some, at_hp, List.map_nil, List.getElem?_cons_zero, List.getElem?_cons_succ, List.map_cons, List.map_nil, List.drop_zero, Option.map_some, ↓reduceIte, reduceCtorEq, Nat.reduceLT, Nat.reduceBEq, Int.reduceLT, Int.reduceBEq, Int.toNat_natCast, Nat.zero_add, true_and, and_self, Bool.true_and, Bool.and_self, beq_self_eq_true, DV.wk.go, Try.vt3, Try.vt26, Try.velem26, Try.vfield29x2, Try.vfield73x0, dec_t, dec_f, Ret, DV.nums, DV.nums.go, hg]
      rfl
  · have ho' : r.okB = false := by simpa using ho
    rw [if_neg ho]
    rw [ho'] at hv
    simp (config := { maxSteps := 2000000 }) (implicitDefEqProofs := false) (disch := first | omega | assumption | (simp only []; done) | fail) only [vop_assign, vcallee_assign, vop_box, vcallee_box, vop_load, vcallee_load, vcallee_value, vcal_fn, strip_pv, strip_ptr, strip_agg, strip_fn, optV_none, ev_tmp, ev_const, ev_func, ofConst_int, ofConst_bool, put_some, at_mk, fits_some, ↓look_cons, ↓vlook_t, ↓vlook_f, guard_none, ↓vrun_nil, ↓code_region, ↓code_seq, ↓onNormal_normal, load_ptr, vld_agg, blk_zero, box_eq, allOne_nil, allOne_cons, one_pv, enum_nil, enum_cons, evG_eq, ↓vrun_cons, ↓run1_some, ↓runG_true, ↓run2_none, ↓run2_some, ↓run3_some, at_hp, List.map_nil, dcells, List.toList_toArray, List.length_cons, List.length_nil, List.map_cons, List.map_nil, List.cons_append, List.nil_append, List.append_nil, List.take_succ_cons, List.take_nil, List.drop_zero, Option.map_some, ↓reduceIte, Nat.reduceAdd, Nat.reduceLT, Nat.reduceBEq, Int.reduceLT, Int.reduceAdd, Int.reduceBEq, Nat.zero_add, true_and, and_self, Bool.true_and, Bool.and_self, beq_self_eq_true, Nat.le_refl, Try.vt29, dec_t, Try.f21, Rm.d]
    refine vc_pure hv rfl ?_
    simp (config := { maxSteps := 2000000 }) (implicitDefEqProofs := false) (disch := first | omega | assumption | (simp only []; done) | fail) only [vop_move, vcallee_move, vop_assign, vcallee_assign, vop_pick, vcallee_pick, vop_unOp, vcallee_unOp, vpick_bool, strip_pv, strip_tup, optV_none, ev_tmp, ev_const, ofConst_int, ofConst_bool, put_some, at_mk, fits_some, ↓look_cons, ↓vlook_t, ↓vlook_f, guard_none, guard_some, vgof_bool, ↓vrun_nil, ↓code_region, ↓code_seq, ↓code_ret, ↓onNormal_normal, ↓onNormal_ret, frz_tup, frzT_pv, allSome_nil, allSome_cons, frzHeap_zero, res_two, vres_tmp, un_not, evG_eq, ↓vrun_cons, ↓run1_some, ↓runG_true, ↓runG_false, ↓run2_none, ↓run3_some, ↓runK_eq, ↓code_cond, ↓vtest_bool, ↓vbr_true, ↓vpost_ret, vfin_some, vfin2_some, at_hp, pickV_t, List.map_nil, List.getElem?_cons_zero, List.getElem?_cons_succ, List.map_cons, List.map_nil, Option.map_some, Option.bind_some, Nat.reduceLT, Nat.reduceBEq, Int.reduceLT, Int.reduceBEq, true_and, and_self, Bool.not_true, Bool.not_false, Bool.true_and, Bool.and_self, b_beq_f, beq_self_eq_true, DV.wk.go, dec_t, Ret, DV.nums, DV.nums.go]
    try simp (config := { maxSteps := 2000000 }) (implicitDefEqProofs := false) (disch := first | omega | assumption) only [ownD]
end Go.Proofs.Ytjjjlkjhojdnnaa
