/-
  Closed facts about the types of this seat, written by a program (gentypes.py).
-/
import Derived.Test.YtjiaadkncpajnaaProg
import Derived.Test.YtjiaadkncpajnaaV2
import Derived.KernelRfl
import Derived.Test.YtjiaadkncpajnaaV3
namespace Go.Proofs
open Go.V

theorem Try.vt3 : vt Try.prog 3 = some none := by kernel_rfl
theorem Try.vkind3 : vkind Try.prog 3 = .int .i64 := by kernel_rfl
theorem Try.vzero3 : vzero Try.prog 3 = some [.pv (.lit (.int .i64 0))] := by kernel_rfl
theorem Try.vkind4 : vkind Try.prog 4 = .bool := by kernel_rfl
theorem Try.vt5 : vt Try.prog 5 = some none := by kernel_rfl
theorem Try.vkind5 : vkind Try.prog 5 = .int .u8 := by kernel_rfl
theorem Try.vt22 : vt Try.prog 22 = some none := by kernel_rfl
theorem Try.velem22 : velem Try.prog 22 = some (none, 5, 1) := by kernel_rfl
theorem Try.vkind22 : vkind Try.prog 22 = .sl 5 := by kernel_rfl
theorem Try.vt24 : vt Try.prog 24 = some none := by kernel_rfl
theorem Try.velem24 : velem Try.prog 24 = some (none, 33, 4) := by kernel_rfl
theorem Try.notInt24 : notInt Try.prog 24 = true := by kernel_rfl
theorem Try.vkind24 : vkind Try.prog 24 = .sl 33 := by kernel_rfl
theorem Try.vt26 : vt Try.prog 26 = some (some 2) := by kernel_rfl
theorem Try.vfield26x0 : vfield Try.prog 26 0 = some (24, 0, 1) := by kernel_rfl
theorem Try.vfield26x1 : vfield Try.prog 26 1 = some (24, 1, 1) := by kernel_rfl
theorem Try.vplaces26 : vplaces Try.prog 26 = some fun j => ([(0, 1), (1, 1)] : List (Nat × Nat))[j]? := by kernel_rfl
theorem Try.vzero26 : vzero Try.prog 26 = some [.pv (.slc []), .pv (.slc [])] := by kernel_rfl
theorem Try.vt28 : vt Try.prog 28 = some (some 2) := by kernel_rfl
theorem Try.vfield28x0 : vfield Try.prog 28 0 = some (3, 0, 1) := by kernel_rfl
theorem Try.vfield28x1 : vfield Try.prog 28 1 = some (3, 1, 1) := by kernel_rfl
theorem Try.vplaces28 : vplaces Try.prog 28 = some fun j => ([(0, 1), (1, 1)] : List (Nat × Nat))[j]? := by kernel_rfl
theorem Try.vzero28 : vzero Try.prog 28 = some [.pv (.lit (.int .i64 0)), .pv (.lit (.int .i64 0))] := by kernel_rfl
theorem Try.leaves28 : leaves Try.prog 8 28 = some [(0, 1), (1, 1)] := by kernel_rfl
theorem Try.eqg28 : Try.prog.eqGuardType Try.prog.depth 28 = false := by kernel_rfl
theorem Try.vt33 : vt Try.prog 33 = some (some 4) := by kernel_rfl
theorem Try.vfield33x0 : vfield Try.prog 33 0 = some (3, 0, 1) := by kernel_rfl
theorem Try.vfield33x1 : vfield Try.prog 33 1 = some (28, 1, 2) := by kernel_rfl
theorem Try.vfield33x2 : vfield Try.prog 33 2 = some (3, 3, 1) := by kernel_rfl
theorem Try.vplaces33 : vplaces Try.prog 33 = some fun j => ([(0, 1), (1, 2), (3, 1)] : List (Nat × Nat))[j]? := by kernel_rfl
theorem Try.vzero33 : vzero Try.prog 33 = some [.pv (.lit (.int .i64 0)), .pv (.lit (.int .i64 0)), .pv (.lit (.int .i64 0)), .pv (.lit (.int .i64 0))] := by kernel_rfl
theorem Try.bytes33 : bytesT Try.prog 33 = some 32 := by kernel_rfl
theorem Try.leaves33 : leaves Try.prog 8 33 = some [(0, 1), (1, 1), (2, 1), (3, 1)] := by kernel_rfl
theorem Try.eqg33 : Try.prog.eqGuardType Try.prog.depth 33 = false := by kernel_rfl
theorem Try.velem43 : velem Try.prog 43 = some (none, 26, 2) := by kernel_rfl
theorem Try.vkind43 : vkind Try.prog 43 = .sl 26 := by kernel_rfl
theorem Try.velem49 : velem Try.prog 49 = some (none, 3, 1) := by kernel_rfl
theorem Try.vkind49 : vkind Try.prog 49 = .sl 3 := by kernel_rfl
theorem Try.vfield62x0 : vfield Try.prog 62 0 = some (22, 0, 1) := by kernel_rfl
theorem Try.vfield62x1 : vfield Try.prog 62 1 = some (3, 1, 1) := by kernel_rfl
theorem Try.vplaces62 : vplaces Try.prog 62 = some fun j => ([(0, 1), (1, 1)] : List (Nat × Nat))[j]? := by kernel_rfl
theorem Try.vzero62 : vzero Try.prog 62 = some [.pv (.slc []), .pv (.lit (.int .i64 0))] := by kernel_rfl
theorem Try.vkind78 : vkind Try.prog 78 = .int .u64 := by kernel_rfl
end Go.Proofs

namespace Go.Proofs.Ytjiaadkncpajnaa
open Go.V Go
set_option maxRecDepth 100000
set_option linter.unusedSimpArgs false

def cb (c : C) : Blk := ⟨62, true, cc c⟩
/-- What a contract of a method of Codes says. -/
abbrev CX (R : DV → Prop) : DV → Heap → Prop := fun r h' => ∃ B', h' = [B'] ∧ B'.live = true ∧ DV.nums.go (fun _ => false) B'.cells = true ∧ r.nums (fun _ => false) = true ∧ (R r ∧ ∃ c', B' = cb c')

theorem vc_cx {g : FuncId} {args : List DV} {hp : Heap} {k : Nat} {c : C} {R : DV → Prop} {K : DV → Heap → Prop} (h : VCalls Try.prog g (args.map (DV.ren fun _ => 0)) [cb c] (CX R)) (hk : hp[k]? = some (cb c))
    (ha : DV.nums.go (fun i => i == k) args = true) (hK : ∀ r c', R r → K r (hp.set k (cb c'))) : VCalls Try.prog g args hp K :=
  (VCalls.ptr1 (R := fun r B' => R r ∧ ∃ c', B' = cb c') hk rfl (cc_nums c) h ha).mono fun r h' ⟨B', e1, _, _, e2, e3⟩ => by subst e1; obtain ⟨c', rfl⟩ := e3; exact hK r c' e2

/-- A choice below n. -/
abbrev Nx (n : Nat) : DV → Prop := fun r => ∃ x : Nat, r = .int .i64 x ∧ x < n

theorem next0_v (c : C) (n : Nat) (h1 : 1 ≤ n) (hn : n ≤ 256) : VCalls Try.prog 19 [.ptr 0 0, .int .i64 n] [cb c] (CX (Nx n)) := by
  refine vcalls_drop (fn := Try.f19) Try.func19 rfl (by kernel_rfl) (by simp [Try.f19]) ?_
  have ha := c.ha
  have hl := c.hl
  simp (config := { maxSteps := 2000000 }) (implicitDefEqProofs := false) (disch := first | omega | assumption | (simp only []; done) | fail) only [vop_assign, vcallee_assign, strip_pv, optV_none, ev_const, ofConst_int, put_some, at_mk, fits_some, guard_none, ↓vrun_nil, ↓code_region, ↓code_draw, ↓code_seq, ↓onNormal_normal, enum_nil, enum_cons, evG_eq, ↓vrun_cons, ↓run1_some, ↓runG_true, ↓run2_none, ↓run3_some, List.toList_toArray, List.length_cons, List.length_nil, Nat.reduceAdd, Nat.reduceLT, Int.reduceLT, Int.reduceAdd, Nat.zero_add, true_and, Bool.true_and, dec_t, Try.f19, cb, cc]
  refine vdraw (by kernel_rfl) (by kernel_rfl) ?_
  by_cases a : c.at_ < c.l.length
  · simp (config := { maxSteps := 2000000 }) (implicitDefEqProofs := false) (disch := first | omega | assumption | (simp only []; done) | fail) only [vop_move, vcallee_move, okKind_move, foot_move, vop_pick, vcallee_pick, okKind_pick, foot_pick, vop_load, vcallee_load, okKind_load, vop_nilCheck, vcallee_nilCheck, okKind_nilCheck, foot_nilCheck, vop_binOp, vcallee_binOp, okKind_binOp, foot_binOp, vop_fieldAddr, vcallee_fieldAddr, okKind_fieldAddr, foot_fieldAddr, foot_load, foot_call, okKind_len, vop_builtin, vcallee_builtin, ptrNo_ptr, bin2_tmp, bin2_int, vnil_ptr, vpick_bool, strip_pv, strip_ptr, strip_opt, vstr_true, optV_none, optV_some, pickV_bool, ev_tmp, ev_const, ofConst_int, ofConst_bool, put_some, at_mk, fits_some, ↓look_cons, ↓vlook_t, ↓vlook_f, guard_none, guard_some, vgof_bool, ↓vdr_nil, ↓code_skip, ↓code_draw, ↓code_seq, ↓onNormal_normal, load_ptr, vld_one, blk_zero, faddr_ptr, vfap_some, bin_int, int_lss, int_geq, len_sl, vlk_sl, bi_len, okc_nil, okc_none, okc_other, okc_one, evG_eq, ↓vdr_cons, ↓dr1_some, ↓drG_true, ↓dr2_none, ↓dr3_some, ↓code_cond, ↓vtest_bool, ↓vbr_false, at_hp, List.map_nil, List.getElem?_cons_zero, List.getElem?_cons_succ, List.map_cons, List.map_nil, List.cons_append, List.nil_append, List.any_nil, List.any_cons, Option.map_some, Option.bind_some, ↓reduceIte, reduceCtorEq, Nat.reduceAdd, Nat.reduceLT, Nat.reduceBEq, Int.reduceLT, Int.reduceAdd, Int.reduceBEq, Nat.zero_add, Nat.add_zero, true_and, and_true, and_self, and_false, or_true, or_false, or_self, Bool.not_true, Bool.not_false, Bool.or_true, Bool.or_false, Bool.and_true, Bool.true_and, Bool.and_false, Bool.or_self, Bool.and_self, cond_false, beq_self_eq_true, fz_len, Try.vt3, Try.vt22, Try.vkind22, Try.vfield62x0, Try.vfield62x1, dec_t, dec_f]
    refine vdraw (by kernel_rfl) (by kernel_rfl) ?_
    have hg := fzU_get c.l c.at_ a
    have hh : (c.l.getD c.at_ 0).toNat < 256 := UInt8.toNat_lt _
    simp (config := { maxSteps := 2000000 }) (implicitDefEqProofs := false) (disch := first | omega | assumption | (simp only [List.length_cons, List.length_nil, Nat.zero_add]; done) | fail) only [vop_move, vcallee_move, okKind_move, foot_move, vop_assign, vcallee_assign, okKind_assign, foot_assign, vop_load, vcallee_load, okKind_load, vop_store, vcallee_store, vop_nilCheck, vcallee_nilCheck, okKind_nilCheck, foot_nilCheck, vop_binOp, vcallee_binOp, vop_convert, vcallee_convert, okKind_convert, vop_fieldAddr, vcallee_fieldAddr, okKind_fieldAddr, foot_fieldAddr, vop_indexAddr, vcallee_indexAddr, okKind_indexAddr, foot_indexAddr, foot_load, foot_convert, ptrNo_ptr, ptrNo_ip, conv_pv, bin2_tmp, bin2_int, ownNo_pv, vnil_ptr, strip_pv, strip_ptr, strip_ip, optV_none, ev_tmp, ev_const, ofConst_int, put_some, put_none, at_mk, fits_some, fits_none, ↓look_cons, ↓vlook_t, ↓vlook_f, guard_none, ↓vrun_nil, ↓vdr_nil, ↓code_skip, ↓code_region, ↓code_seq, ↓code_ret, ↓onNormal_normal, frz_pv, frz1_pv, allSome_nil, allSome_cons, res_one, vres_tmp, load_ptr, load_ip, vld_one, vldp_one, store_ptr, vst_one, blk_zero, set_zero, one_pv, faddr_ptr, vfap_some, iaddr_sl, vias_some, bin_int, int_add, int_gtr, int_rem, okc_nil, okc_none, okc_other, okc_one, conv_int, vci_int, evG_eq, ↓vrun_cons, ↓run1_some, ↓runG_true, ↓run2_none, ↓run3_some, ↓vdr_cons, ↓dr1_some, ↓drG_true, ↓dr2_none, ↓dr3_some, ↓code_cond, ↓vtest_bool, ↓vbr_false, ↓vpost_ret, vfin_some, vfin2_some, at_hp, frzHeap_one, frzH1_some, List.map_nil, List.getElem?_cons_zero, List.getElem?_cons_succ, List.length_cons, List.length_nil, List.map_cons, List.map_nil, List.cons_append, List.nil_append, List.set_cons_zero, List.set_cons_succ, List.any_nil, List.any_cons, Option.map_some, ↓reduceIte, reduceCtorEq, Nat.reduceAdd, Nat.reduceLT, Nat.reduceBEq, Int.reduceLT, Int.reduceAdd, Int.reduceBEq, Int.toNat_natCast, Nat.zero_add, Nat.add_zero, true_and, and_true, and_self, and_false, or_false, or_self, Bool.not_false, Bool.or_false, Bool.and_true, Bool.true_and, Bool.and_false, Bool.or_self, Bool.and_self, beq_self_eq_true, Try.vt3, Try.vkind3, Try.vt5, Try.vkind5, Try.vt22, Try.velem22, Try.vfield62x0, Try.vfield62x1, wrap_i64_in, dec_t, dec_f, hg]
    obtain ⟨y, hy, hlt⟩ := tmod_lt' (c.l.getD c.at_ 0).toNat n h1
    refine ⟨_, rfl, rfl, rfl, rfl, ⟨y, by rw [hy], hlt⟩, ⟨c.l, c.at_ + 1, a, hl⟩, rfl⟩
  · simp (config := { maxSteps := 2000000 }) (implicitDefEqProofs := false) (disch := first | omega | assumption | (simp only []; done) | fail) only [vop_move, vcallee_move, okKind_move, foot_move, vop_assign, vcallee_assign, vop_pick, vcallee_pick, okKind_pick, foot_pick, vop_load, vcallee_load, okKind_load, vop_nilCheck, vcallee_nilCheck, okKind_nilCheck, foot_nilCheck, vop_binOp, vcallee_binOp, okKind_binOp, foot_binOp, vop_fieldAddr, vcallee_fieldAddr, okKind_fieldAddr, foot_fieldAddr, foot_load, foot_call, okKind_len, vop_builtin, vcallee_builtin, ptrNo_ptr, bin2_tmp, vnil_ptr, vpick_bool, strip_pv, strip_ptr, strip_tup, optV_none, ev_tmp, ev_const, ofConst_int, ofConst_bool, put_some, at_mk, fits_some, ↓look_cons, ↓vlook_t, ↓vlook_f, guard_none, guard_some, vgof_bool, ↓vrun_nil, ↓vdr_nil, ↓code_region, ↓code_seq, ↓code_ret, ↓onNormal_normal, ↓onNormal_ret, frz_pv, frz1_pv, allSome_nil, allSome_cons, res_one, vres_tmp, load_ptr, vld_one, blk_zero, faddr_ptr, vfap_some, bin_int, int_geq, len_sl, vlk_sl, bi_len, okc_nil, okc_none, okc_other, okc_one, evG_eq, ↓vrun_cons, ↓run1_some, ↓runG_true, ↓run2_none, ↓run3_some, ↓vdr_cons, ↓dr1_some, ↓drG_true, ↓drG_false, ↓dr2_none, ↓dr3_some, ↓code_cond, ↓vtest_bool, ↓vbr_true, ↓vpost_ret, vfin_some, vfin2_some, at_hp, frzHeap_one, frzH1_some, pickV_t, List.map_nil, List.getElem?_cons_zero, List.getElem?_cons_succ, List.map_cons, List.map_nil, List.cons_append, List.nil_append, List.any_nil, List.any_cons, Option.map_some, Option.bind_some, ↓reduceIte, reduceCtorEq, Nat.reduceAdd, Nat.reduceLT, Nat.reduceBEq, Int.reduceLT, Int.reduceAdd, Int.reduceBEq, Nat.zero_add, Nat.add_zero, true_and, and_true, and_self, and_false, or_false, or_self, Bool.not_true, Bool.not_false, Bool.or_false, Bool.and_true, Bool.true_and, Bool.and_false, Bool.or_self, Bool.and_self, b_beq_f, beq_self_eq_true, fz_len, Try.vt3, Try.vt22, Try.vkind22, Try.vfield62x0, Try.vfield62x1, dec_t]
    exact ⟨_, rfl, rfl, rfl, rfl, ⟨0, rfl, h1⟩, c, rfl⟩

theorem next_v (c : C) (n : Nat) (h1 : 1 ≤ n) (hn : n ≤ 1000000) : VCalls Try.prog 19 [.ptr 0 0, .int .i64 n] [cb c] (CX (Nx n)) := by
  by_cases hs : n ≤ 256
  · exact next0_v c n h1 hs
  refine vcalls_drop (fn := Try.f19) Try.func19 rfl (by kernel_rfl) (by simp [Try.f19]) ?_
  have ha := c.ha
  have hl := c.hl
  simp (config := { maxSteps := 2000000 }) (implicitDefEqProofs := false) (disch := first | omega | assumption | (simp only []; done) | fail) only [vop_assign, vcallee_assign, strip_pv, optV_none, ev_const, ofConst_int, put_some, at_mk, fits_some, guard_none, ↓vrun_nil, ↓code_region, ↓code_draw, ↓code_seq, ↓onNormal_normal, enum_nil, enum_cons, evG_eq, ↓vrun_cons, ↓run1_some, ↓runG_true, ↓run2_none, ↓run3_some, List.toList_toArray, List.length_cons, List.length_nil, Nat.reduceAdd, Nat.reduceLT, Int.reduceLT, Int.reduceAdd, Nat.zero_add, true_and, Bool.true_and, dec_t, Try.f19, cb, cc]
  refine vdraw (by kernel_rfl) (by kernel_rfl) ?_
  by_cases a : c.at_ < c.l.length
  · simp (config := { maxSteps := 2000000 }) (implicitDefEqProofs := false) (disch := first | omega | assumption | (simp only []; done) | fail) only [vop_move, vcallee_move, okKind_move, foot_move, vop_pick, vcallee_pick, okKind_pick, foot_pick, vop_load, vcallee_load, okKind_load, vop_nilCheck, vcallee_nilCheck, okKind_nilCheck, foot_nilCheck, vop_binOp, vcallee_binOp, okKind_binOp, foot_binOp, vop_fieldAddr, vcallee_fieldAddr, okKind_fieldAddr, foot_fieldAddr, foot_load, foot_call, okKind_len, vop_builtin, vcallee_builtin, ptrNo_ptr, bin2_tmp, bin2_int, vnil_ptr, vpick_bool, strip_pv, strip_ptr, strip_opt, vstr_true, optV_none, optV_some, pickV_bool, ev_tmp, ev_const, ofConst_int, ofConst_bool, put_some, at_mk, fits_some, ↓look_cons, ↓vlook_t, ↓vlook_f, guard_none, guard_some, vgof_bool, ↓vdr_nil, ↓code_skip, ↓code_draw, ↓code_seq, ↓onNormal_normal, load_ptr, vld_one, blk_zero, faddr_ptr, vfap_some, bin_int, int_lss, int_geq, len_sl, vlk_sl, bi_len, okc_nil, okc_none, okc_other, okc_one, evG_eq, ↓vdr_cons, ↓dr1_some, ↓drG_true, ↓dr2_none, ↓dr3_some, ↓code_cond, ↓vtest_bool, ↓vbr_false, at_hp, List.map_nil, List.getElem?_cons_zero, List.getElem?_cons_succ, List.map_cons, List.map_nil, List.cons_append, List.nil_append, List.any_nil, List.any_cons, Option.map_some, Option.bind_some, ↓reduceIte, reduceCtorEq, Nat.reduceAdd, Nat.reduceLT, Nat.reduceBEq, Int.reduceLT, Int.reduceAdd, Int.reduceBEq, Nat.zero_add, Nat.add_zero, true_and, and_true, and_self, and_false, or_true, or_false, or_self, Bool.not_true, Bool.not_false, Bool.or_true, Bool.or_false, Bool.and_true, Bool.true_and, Bool.and_false, Bool.or_self, Bool.and_self, cond_false, beq_self_eq_true, fz_len, Try.vt3, Try.vt22, Try.vkind22, Try.vfield62x0, Try.vfield62x1, dec_t, dec_f]
    refine vdraw (by kernel_rfl) (by kernel_rfl) ?_
    have hg := fzU_get c.l c.at_ a
    have hh : (c.l.getD c.at_ 0).toNat < 256 := UInt8.toNat_lt _
    generalize hx : (c.l.getD c.at_ 0).toNat = x at hg hh
    simp (config := { maxSteps := 2000000 }) (implicitDefEqProofs := false) (disch := first | omega | assumption | (simp only [List.length_cons, List.length_nil, Nat.zero_add]; done) | fail) only [vop_move, vcallee_move, okKind_move, foot_move, vop_assign, vcallee_assign, okKind_assign, foot_assign, vop_load, vcallee_load, okKind_load, vop_store, vcallee_store, vop_nilCheck, vcallee_nilCheck, okKind_nilCheck, foot_nilCheck, vop_binOp, vcallee_binOp, vop_convert, vcallee_convert, okKind_convert, vop_fieldAddr, vcallee_fieldAddr, okKind_fieldAddr, foot_fieldAddr, vop_indexAddr, vcallee_indexAddr, okKind_indexAddr, foot_indexAddr, foot_load, foot_convert, vcallee_value, vcal_fn, ptrNo_ptr, ptrNo_ip, conv_pv, bin2_tmp, bin2_int, ownNo_pv, vnil_ptr, strip_pv, strip_ptr, strip_ip, strip_fn, optV_none, ev_tmp, ev_const, ev_func, ofConst_int, put_some, put_none, at_mk, fits_some, fits_none, ↓look_cons, ↓vlook_t, ↓vlook_f, guard_none, ↓vrun_nil, ↓vdr_nil, ↓code_region, ↓code_seq, ↓onNormal_normal, load_ptr, load_ip, vld_one, vldp_one, store_ptr, vst_one, blk_zero, set_zero, one_pv, faddr_ptr, vfap_some, iaddr_sl, vias_some, bin_int, int_add, int_mul, int_gtr, okc_nil, okc_none, okc_other, okc_one, conv_int, vci_int, evG_eq, ↓vrun_cons, ↓run1_some, ↓runG_true, ↓run2_none, ↓run2_some, ↓run3_some, ↓vdr_cons, ↓dr1_some, ↓drG_true, ↓dr2_none, ↓dr3_some, ↓code_cond, ↓vtest_bool, ↓vbr_true, at_hp, List.map_nil, List.getElem?_cons_zero, List.getElem?_cons_succ, List.length_cons, List.length_nil, List.map_cons, List.map_nil, List.cons_append, List.nil_append, List.append_nil, List.set_cons_zero, List.set_cons_succ, List.any_nil, List.any_cons, Option.map_some, ↓reduceIte, reduceCtorEq, Nat.reduceAdd, Nat.reduceLT, Nat.reduceBEq, Int.reduceLT, Int.reduceAdd, Int.reduceBEq, Int.toNat_natCast, Nat.zero_add, Nat.add_zero, true_and, and_true, and_self, and_false, or_false, or_self, Bool.not_false, Bool.or_false, Bool.and_true, Bool.true_and, Bool.and_false, Bool.or_self, Bool.and_self, beq_self_eq_true, Try.vt3, Try.vkind3, Try.vt5, Try.vkind5, Try.vt22, Try.velem22, Try.vfield62x0, Try.vfield62x1, wrap_i64_in, dec_t, hg]
    refine vc_cx (k := 0) (c := ⟨c.l, c.at_ + 1, a, hl⟩) (next0_v _ 256 (by omega) (by omega)) rfl rfl ?_
    rintro r c' ⟨z, rfl, hz⟩
    simp (config := { maxSteps := 2000000 }) (implicitDefEqProofs := false) (disch := first | omega | assumption | (simp only []; done) | fail) only [vop_move, vcallee_move, vop_assign, vcallee_assign, vop_binOp, vcallee_binOp, bin2_tmp, strip_pv, optV_none, ev_tmp, put_some, at_mk, fits_some, ↓look_cons, ↓vlook_t, ↓vlook_f, guard_none, ↓vrun_nil, ↓code_ret, ↓onNormal_normal, ↓onNormal_ret, frz_pv, frz1_pv, allSome_nil, allSome_cons, res_one, vres_tmp, bin_int, int_add, int_rem, evG_eq, ↓vrun_cons, ↓run1_some, ↓runG_true, ↓run2_none, ↓run3_some, ↓runK_eq, ↓vpost_ret, vfin_some, vfin2_some, at_hp, frzHeap_one, frzH1_some, List.map_nil, List.map_cons, List.map_nil, List.set_cons_zero, Option.map_some, Nat.reduceLT, Nat.reduceBEq, Int.reduceLT, Int.reduceBEq, true_and, Bool.true_and, beq_self_eq_true, wrap_i64_in, dec_t, cb, cc]
    obtain ⟨y, hy, hlt⟩ := tmod_lt' (256 * x + z) n h1
    have e : (256 * (x : Int) + (z : Int)) = ((256 * x + z : Nat) : Int) := by omega
    refine ⟨_, rfl, rfl, rfl, rfl, ⟨y, by rw [e, hy], hlt⟩, c', rfl⟩
  · simp (config := { maxSteps := 2000000 }) (implicitDefEqProofs := false) (disch := first | omega | assumption | (simp only []; done) | fail) only [vop_move, vcallee_move, okKind_move, foot_move, vop_assign, vcallee_assign, vop_pick, vcallee_pick, okKind_pick, foot_pick, vop_load, vcallee_load, okKind_load, vop_nilCheck, vcallee_nilCheck, okKind_nilCheck, foot_nilCheck, vop_binOp, vcallee_binOp, okKind_binOp, foot_binOp, vop_fieldAddr, vcallee_fieldAddr, okKind_fieldAddr, foot_fieldAddr, foot_load, foot_call, okKind_len, vop_builtin, vcallee_builtin, ptrNo_ptr, bin2_tmp, vnil_ptr, vpick_bool, strip_pv, strip_ptr, strip_tup, optV_none, ev_tmp, ev_const, ofConst_int, ofConst_bool, put_some, at_mk, fits_some, ↓look_cons, ↓vlook_t, ↓vlook_f, guard_none, guard_some, vgof_bool, ↓vrun_nil, ↓vdr_nil, ↓code_region, ↓code_seq, ↓code_ret, ↓onNormal_normal, ↓onNormal_ret, frz_pv, frz1_pv, allSome_nil, allSome_cons, res_one, vres_tmp, load_ptr, vld_one, blk_zero, faddr_ptr, vfap_some, bin_int, int_geq, len_sl, vlk_sl, bi_len, okc_nil, okc_none, okc_other, okc_one, evG_eq, ↓vrun_cons, ↓run1_some, ↓runG_true, ↓run2_none, ↓run3_some, ↓vdr_cons, ↓dr1_some, ↓drG_true, ↓drG_false, ↓dr2_none, ↓dr3_some, ↓code_cond, ↓vtest_bool, ↓vbr_true, ↓vpost_ret, vfin_some, vfin2_some, at_hp, frzHeap_one, frzH1_some, pickV_t, List.map_nil, List.getElem?_cons_zero, List.getElem?_cons_succ, List.map_cons, List.map_nil, List.cons_append, List.nil_append, List.any_nil, List.any_cons, Option.map_some, Option.bind_some, ↓reduceIte, reduceCtorEq, Nat.reduceAdd, Nat.reduceLT, Nat.reduceBEq, Int.reduceLT, Int.reduceAdd, Int.reduceBEq, Nat.zero_add, Nat.add_zero, true_and, and_true, and_self, and_false, or_false, or_self, Bool.not_true, Bool.not_false, Bool.or_false, Bool.and_true, Bool.true_and, Bool.and_false, Bool.or_self, Bool.and_self, b_beq_f, beq_self_eq_true, fz_len, Try.vt3, Try.vt22, Try.vkind22, Try.vfield62x0, Try.vfield62x1, dec_t]
    exact ⟨_, rfl, rfl, rfl, rfl, ⟨0, rfl, h1⟩, c, rfl⟩

theorem draw_v (l : List UInt8) (most : Nat) (hm : 1 ≤ most) (h : most ≤ 1000000) (hl : l.length ≤ 9223372036854775807) : VCalls Try.prog 13 [.pv (.sl (fz encU l)), .int .i64 most] [] fun r h' => ∃ B, h' = [B] ∧ r = .ptr 0 0 ∧ B.live = true ∧ DV.nums.go (fun _ => false) B.cells = true ∧ ∃ c, B = cb c := by
  refine vcalls_keep (fn := Try.f13) Try.func13 rfl (by kernel_rfl) (by simp [Try.f13]) ?_
  simp (config := { maxSteps := 2000000 }) (implicitDefEqProofs := false) (disch := first | omega | assumption | (simp only []; done) | fail) only [vop_move, vcallee_move, vop_assign, vcallee_assign, vop_binOp, vcallee_binOp, vop_builtin, vcallee_builtin, bin2_tmp, strip_pv, optV_none, ev_tmp, ev_const, put_some, at_mk, fits_some, ↓look_cons, ↓vlook_t, ↓vlook_f, guard_none, ↓vrun_nil, ↓code_region, ↓code_seq, ↓onNormal_normal, bin_int, int_gtr, len_sl, vlk_sl, bi_len, enum_nil, enum_cons, evG_eq, ↓vrun_cons, ↓run1_some, ↓runG_true, ↓run2_none, ↓run3_some, ↓code_cond, ↓vtest_bool, at_hp, List.map_nil, List.toList_toArray, List.length_nil, List.map_cons, List.map_nil, Option.map_some, Nat.reduceAdd, Nat.reduceLT, Nat.reduceBEq, Int.reduceLT, Int.reduceAdd, Int.reduceBEq, Nat.zero_add, true_and, Bool.true_and, beq_self_eq_true, fz_len, Try.vkind22, dec_t, Try.f13]
  refine vbr_split (fun hc => ?_) (fun hc => ?_) <;> simp only [decide_eq_true_eq, decide_eq_false_iff_not, Bool.or_eq_true, Bool.and_eq_true, Bool.or_eq_false_iff, Bool.and_eq_false_imp, Bool.not_eq_true', Bool.not_eq_false', beq_iff_eq, beq_eq_false_iff_ne, bne_iff_ne, bne_eq_false_iff_eq, ne_eq] at hc
  · have hx : (fz encU l)[0]?.map List.length = some 1 := fz_has encU l (by omega)
    have ht : (fz encU l).take most = fz encU (l.take most) := fz_take encU l most
    have hh : most ≤ (fz encU l).length := by rw [fz_len]; omega
    have h0 : (0 : Nat) ≤ most := by omega
    simp (config := { maxSteps := 2000000 }) (implicitDefEqProofs := false) (disch := first | omega | assumption | (simp only []; done) | fail) only [vop_move, vcallee_move, vop_assign, vcallee_assign, vop_box, vcallee_box, vop_build, vcallee_build, vop_slice, vcallee_slice, strip_pv, strip_ptr, strip_agg, optV_none, ev_tmp, put_some, at_mk, fits_some, ↓look_cons, ↓vlook_t, ↓vlook_f, guard_none, ↓vrun_nil, ↓code_region, ↓code_seq, ↓code_ret, ↓onNormal_normal, res_one, vres_tmp, box_eq, allOne_nil, allOne_cons, one_pv, parts_nil, parts_cons, evG_eq, ↓vrun_cons, ↓run1_some, ↓runG_true, ↓run2_none, ↓run3_some, ↓keep_ret, vfinK_some, at_hp, slice_pv, slice_sl_hi, vslk_some, dcells, vbuild, vfill, V.splice, List.getElem?_cons_zero, List.length_cons, List.length_nil, List.cons_append, List.nil_append, List.take_zero, List.drop_succ_cons, List.drop_zero, Option.map_some, Option.map_none, ↓reduceIte, Nat.reduceAdd, Nat.reduceLT, Nat.reduceLeDiff, Nat.reduceBEq, Int.reduceLT, Int.reduceAdd, Int.reduceBEq, Int.toNat_natCast, Nat.zero_add, true_and, and_self, Bool.true_and, Bool.and_self, beq_self_eq_true, Try.velem22, Try.vplaces62, Try.vzero62, dec_t, ht]
    exact ⟨_, rfl, rfl, rfl, ⟨l.take most, 0, by omega, by rw [List.length_take]; omega⟩, rfl⟩
  · simp (config := { maxSteps := 2000000 }) (implicitDefEqProofs := false) (disch := first | omega | assumption | (simp only []; done) | fail) only [vop_move, vcallee_move, vop_assign, vcallee_assign, vop_box, vcallee_box, vop_build, vcallee_build, strip_pv, strip_ptr, strip_agg, optV_none, ev_tmp, put_some, at_mk, fits_some, ↓look_cons, ↓vlook_t, ↓vlook_f, guard_none, ↓vrun_nil, ↓code_skip, ↓code_region, ↓code_seq, ↓code_ret, ↓onNormal_normal, res_one, vres_tmp, box_eq, allOne_nil, allOne_cons, one_pv, parts_nil, parts_cons, evG_eq, ↓vrun_cons, ↓run1_some, ↓runG_true, ↓run2_none, ↓run3_some, ↓keep_ret, vfinK_some, at_hp, dcells, vbuild, vfill, V.splice, List.getElem?_cons_zero, List.length_cons, List.length_nil, List.cons_append, List.nil_append, List.take_zero, List.drop_succ_cons, List.drop_zero, Option.map_some, ↓reduceIte, Nat.reduceAdd, Nat.reduceLT, Nat.reduceLeDiff, Nat.reduceBEq, Int.reduceLT, Int.reduceAdd, Int.reduceBEq, Nat.zero_add, true_and, and_self, Bool.true_and, Bool.and_self, beq_self_eq_true, Try.vplaces62, Try.vzero62, dec_t, dec_f]
    exact ⟨_, rfl, rfl, rfl, ⟨l, 0, by omega, by omega⟩, rfl⟩

theorem vc_draw {l : List UInt8} {most : Nat} {hp : Heap} {K : DV → Heap → Prop} (hm : 1 ≤ most) (h : most ≤ 1000000) (hl : l.length ≤ 9223372036854775807) (hK : ∀ c, K (.ptr hp.length 0) (hp ++ [cb c])) : VCalls Try.prog 13 [.pv (.sl (fz encU l)), .int .i64 most] hp K :=
  (VCalls.new (draw_v l most hm h hl) rfl).mono fun r h' ⟨B, e1, e2, _, _, c, e3⟩ => by subst e1 e2 e3; exact hK c

end Go.Proofs.Ytjiaadkncpajnaa

namespace Go.Proofs.Ytjiaadkncpajnaa
open Go.V Go
set_option maxRecDepth 100000
set_option linter.unusedSimpArgs false

abbrev noK : Nat → Bool := fun _ => false
/-- How far a search has come. -/
structure Pass {α : Type} (l : List α) (p : α → Prop) where
  i : Nat
  hi : i ≤ l.length
  no : ∀ x ∈ l.take i, ¬ p x
def Pass.start {α : Type} (l : List α) (p : α → Prop) : Pass l p := ⟨0, Nat.zero_le _, by simp⟩
def Pass.next {α : Type} {l : List α} {p : α → Prop} (s : Pass l p) (h : s.i < l.length) (hp : ¬ p l[s.i]) : Pass l p :=
  ⟨s.i + 1, h, fun x hx => by
    rw [List.take_succ_eq_append_getElem h, List.mem_append] at hx
    rcases hx with hx | hx
    · exact s.no x hx
    · simp at hx; subst hx; exact hp⟩
theorem Pass.all {α : Type} {l : List α} {p : α → Prop} (s : Pass l p) (h : ¬ s.i < l.length) : ∀ x ∈ l, ¬ p x := by
  have := s.no
  rwa [List.take_of_length_le (by omega)] at this
def idxP {α : Type} (l : List α) (p : α → Bool) : Int := if l.any p = true then (l.findIdx p : Int) else -1
theorem idxP_at {α : Type} (l : List α) (p : α → Bool) (i : Nat) (h : i < l.length) (hx : p l[i] = true) (no : ∀ x ∈ l.take i, ¬ p x = true) : idxP l p = i := by
  rw [idxP, if_pos (List.any_eq_true.2 ⟨l[i], List.getElem_mem h, hx⟩)]
  congr 1
  rw [List.findIdx_eq h]
  refine ⟨hx, fun j hj => ?_⟩
  have := no l[j] (List.mem_take_iff_getElem.2 ⟨j, by omega, rfl⟩)
  simpa using this
theorem cells_all {α : Type} (e : Enc α) (l : List α) (n : Nat) (h : n = l.length * e.sz) : (cells e l).take n = cells e l := by rw [List.take_of_length_le]; rw [cells_len]; omega
theorem fz_at {α : Type} (e : Enc α) (l : List α) (i : Nat) (h : i < l.length) : (fz e l)[i]? = some (e.enc l[i]) := fz_get e l i h

structure Gr where
  tx : Int
  pg : Int
  sl : Int
  md : Int
deriving DecidableEq
def Gr0 : Gr := ⟨0, 0, 0, 0⟩
def encG : Enc Gr := ⟨4, fun g => [.lit (.int .i64 g.tx), .lit (.int .i64 g.pg), .lit (.int .i64 g.sl), .lit (.int .i64 g.md)], by omega, fun _ => rfl⟩
def Gr.d (g : Gr) : DV := .agg [.int .i64 g.tx, .int .i64 g.pg, .int .i64 g.sl, .int .i64 g.md]
structure Lk where
  held : List Gr
  wait : List Gr
deriving DecidableEq
def Lk.d (t : Lk) : DV := .agg [.pv (.sl (fz encG t.held)), .pv (.sl (fz encG t.wait))]
def Lk.sm (t : Lk) : Prop := t.held.length ≤ 5000 ∧ t.wait.length ≤ 5000

theorem cloneG_v (l : List Gr) (hl : l.length ≤ 1000000) : VCalls Try.prog 59 [.pv (.sl (fz encG l))] [] (NewSl noK [] 4 l.length 33 (cells encG l)) := by
  refine VCalls.newSl ?_
  by_cases hz : l = []
  · subst hz
    refine VCalls.open0 fun ad cap hs => ?_
    refine vcalls_keep (fn := Try.f59) Try.func59 rfl (by kernel_rfl) (by simp [Try.f59]) ?_
    simp (config := { maxSteps := 2000000 }) (implicitDefEqProofs := false) (disch := first | omega | assumption | (simp only []; done) | fail) only [vop_move, vcallee_move, vop_assign, vcallee_assign, vop_binOp, vcallee_binOp, bin2_nil, vnilT_sl, vnilc_eql, isNil_lit, strip_pv, optV_none, ev_tmp, ev_const, ofConst_slice, put_some, at_mk, fits_some, ↓look_cons, ↓vlook_t, ↓vlook_f, guard_none, ↓vrun_nil, ↓code_region, ↓code_seq, ↓onNormal_normal, enum_nil, enum_cons, evG_eq, ↓vrun_cons, ↓run1_some, ↓runG_true, ↓run2_none, ↓run3_some, ↓code_cond, ↓vtest_bool, at_hp, List.toList_toArray, List.length_nil, Option.map_some, Nat.reduceLT, Nat.reduceBEq, Int.reduceLT, Int.reduceBEq, Nat.zero_add, true_and, Bool.true_and, beq_self_eq_true, dec_t, Try.f59, Try.underlying24]
    refine vbr_split (fun h => ?_) (fun h => ?_)
    · simp (config := { maxSteps := 2000000 }) (implicitDefEqProofs := false) (disch := first | omega | assumption | (simp only []; done) | fail) only [vop_assign, vcallee_assign, strip_pv, optV_none, ev_const, ofConst_slice, put_some, at_mk, fits_some, ↓look_cons, ↓vlook_t, guard_none, ↓vrun_nil, ↓code_region, ↓code_seq, ↓code_ret, ↓onNormal_normal, ↓onNormal_ret, res_one, vres_tmp, evG_eq, ↓vrun_cons, ↓run1_some, ↓runG_true, ↓run2_none, ↓run3_some, ↓keep_ret, vfinK_some, at_hp, Nat.reduceLT, Int.reduceLT, true_and, Bool.true_and, beq_self_eq_true, dec_t]
      exact ⟨by simp, .inl ⟨rfl, rfl, rfl⟩⟩
    · simp (config := { maxSteps := 2000000 }) (implicitDefEqProofs := false) (disch := first | omega | assumption | (simp only []; done) | fail) only [vop_move, vcallee_move, vop_assign, vcallee_assign, vop_buildSlice, vcallee_buildSlice, vop_builtin, vcallee_builtin, strip_pv, strip_own, optV_none, ev_tmp, put_some, at_mk, fits_some, ↓look_cons, ↓vlook_t, ↓vlook_f, guard_none, ↓vrun_nil, ↓code_skip, ↓code_region, ↓code_seq, ↓code_ret, ↓onNormal_normal, res_one, vres_tmp, allOne_nil, allOne_cons, one_pv, bi_append, ap2_own, parts_nil, evG_eq, ↓vrun_cons, ↓run1_some, ↓runG_true, ↓run2_none, ↓run3_some, ↓keep_ret, vfinK_some, at_hp, List.map_nil, vfill, vbuildSlice, V.mk, vsrc, vbase, vappend, V.kill, List.getElem?_cons_zero, List.length_cons, List.length_nil, List.map_cons, List.map_nil, List.cons_append, List.nil_append, List.append_nil, List.take_nil, List.set_cons_zero, Option.map_some, ↓reduceIte, Nat.reduceAdd, Nat.reduceLT, Nat.reduceLeDiff, Nat.reduceBEq, Int.reduceLT, Int.reduceAdd, Int.reduceBEq, Nat.zero_add, Nat.add_zero, Nat.zero_mul, true_and, and_self, Bool.true_and, Bool.and_self, beq_self_eq_true, Nat.le_refl, Try.velem24, Try.notInt24, Try.vzero33, Try.bytes33, dec_t]
      exact ⟨by simp, .inr ⟨_, .inl rfl, by simp, rfl, rfl⟩⟩
  · have hp : 0 < l.length := List.length_pos_iff.2 hz
    refine vcalls_keep (fn := Try.f59) Try.func59 rfl (by kernel_rfl) (by simp [Try.f59]) ?_
    have h0 := isNil_fz encG l hp
    have hx : (fz encG l)[0]?.map List.length = some 4 := fz_has encG l hp
    have hb : l.length * 32 ≤ 140737488355328 := by omega
    have hfl : pvs (fz encG l) = cells encG l := fz_flat encG l
    simp (config := { maxSteps := 2000000 }) (implicitDefEqProofs := false) (disch := first | omega | assumption | (simp only []; done) | fail) only [vop_move, vcallee_move, vop_assign, vcallee_assign, vop_buildSlice, vcallee_buildSlice, vop_binOp, vcallee_binOp, vop_builtin, vcallee_builtin, bin2_nil, vnilT_sl, vnilc_eql, strip_pv, strip_own, optV_none, ev_tmp, ev_const, ofConst_slice, put_some, at_mk, fits_some, ↓look_cons, ↓vlook_t, ↓vlook_f, guard_none, ↓vrun_nil, ↓code_skip, ↓code_region, ↓code_seq, ↓code_ret, ↓onNormal_normal, res_one, vres_tmp, allOne_nil, allOne_cons, one_pv, bi_append, ap2_own, parts_nil, enum_nil, enum_cons, evG_eq, ↓vrun_cons, ↓run1_some, ↓runG_true, ↓run2_none, ↓run3_some, ↓code_cond, ↓vtest_bool, ↓vbr_false, ↓keep_ret, vfinK_some, at_hp, pvs, List.map_nil, vfill, vbuildSlice, V.mk, slOf, vsrc, vbase, vappend, V.kill, List.toList_toArray, List.getElem?_cons_zero, List.length_cons, List.length_nil, List.map_cons, List.map_nil, List.cons_append, List.nil_append, List.take_nil, List.set_cons_zero, Option.map_some, ↓reduceIte, Nat.reduceAdd, Nat.reduceLT, Nat.reduceLeDiff, Nat.reduceBEq, Int.reduceLT, Int.reduceAdd, Int.reduceBEq, Nat.zero_add, Nat.zero_mul, true_and, and_self, or_true, Bool.or_true, Bool.true_and, Bool.and_self, beq_self_eq_true, Nat.le_refl, fz_len, fz_flat, Try.velem24, Try.notInt24, Try.vzero33, Try.bytes33, dec_t, Try.f59, Try.underlying24, h0, hx, hb]
    exact ⟨by simp, .inr ⟨_, .inl rfl, by simp, rfl, cells_nums _ _ _⟩⟩

theorem indexFG_v (l : List Gr) (hl : l.length ≤ 1000000) (g : FuncId) (caps : List DV) (hc : DV.nums.go (fun _ => false) caps = true) (p : Gr → Bool) (hf : ∀ x ∈ l, VCalls Try.prog g (.agg [.int .i64 x.tx, .int .i64 x.pg, .int .i64 x.sl, .int .i64 x.md] :: caps) [] (Ret (.bool (p x)))) :
    VCalls Try.prog 54 [.pv (.sl (fz encG l)), .fn (.func g) [] caps] [] (Ret (.int .i64 (idxP l p))) := by
  refine vcalls_drop (fn := Try.f54) Try.func54 rfl (by kernel_rfl) (by simp [Try.f54]) ?_
  simp (config := { maxSteps := 2000000 }) (implicitDefEqProofs := false) (disch := first | omega | assumption | (simp only []; done) | fail) only [vop_move, vcallee_move, vop_assign, vcallee_assign, vop_builtin, vcallee_builtin, strip_pv, optV_none, ev_tmp, ev_const, ofConst_int, put_some, at_mk, fits_some, ↓look_cons, ↓vlook_t, ↓vlook_f, guard_none, ↓vrun_nil, ↓code_region, ↓code_seq, ↓code_block, ↓code_loop, ↓onNormal_normal, len_sl, vlk_sl, bi_len, enum_nil, enum_cons, evG_eq, ↓vrun_cons, ↓run1_some, ↓runG_true, ↓run2_none, ↓run3_some, at_hp, List.map_nil, List.toList_toArray, List.length_nil, List.map_cons, List.map_nil, Option.map_some, Nat.reduceAdd, Nat.reduceLT, Nat.reduceBEq, Int.reduceLT, Int.reduceNeg, Int.reduceAdd, Int.reduceBEq, Nat.zero_add, true_and, Bool.true_and, beq_self_eq_true, fz_len, Try.vkind24, dec_t, Try.f54]
  refine vloop (fun i : Pass l (fun x => p x = true) => ⟨19, 0, [(8, .int .i64 i.i), (7, .int .i64 l.length), (0, .pv (.sl (fz encG l))), (1, .fn (.func g) [] caps)], []⟩) (fun i => l.length - i.i) (Pass.start l _) (by refine ⟨rfl, rfl, by simp, ?_, ?_, .inl rfl⟩ <;> (repeat' apply And.intro) <;> first | rfl | trivial) ?_
  intro i
  have hi := i.hi
  simp (config := { maxSteps := 2000000 }) (implicitDefEqProofs := false) (disch := first | omega | assumption | (simp only []; done) | fail) only [vop_binOp, vcallee_binOp, bin2_tmp, strip_pv, optV_none, ev_tmp, put_some, at_mk, fits_some, ↓look_cons, ↓vlook_t, ↓vlook_f, guard_none, ↓vrun_nil, ↓code_region, ↓code_seq, ↓onNormal_normal, bin_int, int_lss, evG_eq, ↓vrun_cons, ↓run1_some, ↓runG_true, ↓run2_none, ↓run3_some, ↓code_cond, ↓vtest_bool, Option.map_some, Nat.reduceLT, Nat.reduceBEq, Int.reduceLT, Int.reduceNeg, Int.reduceBEq, true_and, Bool.true_and, beq_self_eq_true, dec_t]
  refine vbr_split (fun hc1 => ?_) (fun hc1 => ?_) <;> simp only [decide_eq_true_eq, decide_eq_false_iff_not, Bool.or_eq_true, Bool.and_eq_true, Bool.or_eq_false_iff, Bool.and_eq_false_imp, Bool.not_eq_true', Bool.not_eq_false', beq_iff_eq, beq_eq_false_iff_ne, bne_iff_ne, bne_eq_false_iff_eq, ne_eq] at hc1
  · have hlt : i.i < l.length := by omega
    have hg : (fz encG l)[i.i]? = some [.lit (.int .i64 l[i.i].tx), .lit (.int .i64 l[i.i].pg), .lit (.int .i64 l[i.i].sl), .lit (.int .i64 l[i.i].md)] := fz_at encG l i.i hlt
    have hm := hf l[i.i] (List.getElem_mem hlt)
    simp (config := { maxSteps := 2000000 }) (implicitDefEqProofs := false) (disch := first | omega | assumption | (simp only [List.length_cons, List.length_nil, Nat.zero_add, Nat.reduceAdd]; done) | fail) only [vop_move, vcallee_move, vop_assign, vcallee_assign, vop_load, vcallee_load, vop_indexAddr, vcallee_indexAddr, vcallee_value, vcal_fn, strip_pv, strip_ip, strip_agg, strip_fn, optV_none, ev_tmp, put_some, at_mk, fits_some, ↓look_cons, ↓vlook_t, ↓vlook_f, guard_none, ↓vrun_nil, ↓code_skip, ↓code_region, ↓code_seq, ↓code_block, ↓onNormal_normal, load_ip, vldp_agg, iaddr_sl, vias_some, evG_eq, ↓vrun_cons, ↓run1_some, ↓runG_true, ↓run2_none, ↓run2_some, ↓run3_some, at_hp, List.map_nil, List.length_cons, List.length_nil, List.map_cons, List.map_nil, List.cons_append, List.nil_append, List.take_succ_cons, List.take_nil, Option.map_some, ↓reduceIte, Nat.reduceAdd, Nat.reduceLT, Nat.reduceBEq, Int.reduceLT, Int.reduceNeg, Int.reduceAdd, Int.reduceBEq, Int.toNat_natCast, Nat.zero_add, true_and, Bool.true_and, beq_self_eq_true, Nat.le_refl, Try.velem24, Try.vt33, dec_t, hg]
    refine vc_pure hm (by simpa [DV.nums.go, DV.nums] using hc) ?_
    simp (config := { maxSteps := 2000000 }) (implicitDefEqProofs := false) (disch := first | omega | assumption) only [optV_none, ev_tmp, put_some, at_mk, ↓look_cons, ↓vlook_t, ↓vrun_nil, ↓onNormal_normal, ↓runK_eq, ↓code_cond, ↓vtest_bool, Int.reduceNeg, beq_self_eq_true]
    refine vbr_split (fun hx => ?_) (fun hx => ?_)
    · simp (config := { maxSteps := 2000000 }) (implicitDefEqProofs := false) (disch := first | omega | assumption | (simp only []; done) | fail) only [vop_move, vcallee_move, vop_assign, vcallee_assign, strip_pv, optV_none, ev_tmp, put_some, at_mk, fits_some, ↓look_cons, ↓vlook_t, ↓vlook_f, guard_none, ↓vrun_nil, ↓code_region, ↓code_seq, ↓code_ret, ↓onNormal_normal, ↓onNormal_ret, ↓onBlock_ret, frz_pv, frzHeap_zero, res_one, vres_tmp, evG_eq, ↓vrun_cons, ↓run1_some, ↓runG_true, ↓run2_none, ↓run3_some, ↓vpost_ret, vfin_some, vfin2_some, at_hp, Nat.reduceLT, Nat.reduceBEq, Int.reduceLT, Int.reduceNeg, Int.reduceBEq, true_and, Bool.true_and, beq_self_eq_true, dec_t, Ret, DV.nums]
      rw [idxP_at l p i.i hlt hx i.no]
    · simp (config := { maxSteps := 2000000 }) (implicitDefEqProofs := false) (disch := first | omega | assumption | (simp only []; done) | fail) only [vop_move, vcallee_move, vop_binOp, vcallee_binOp, bin2_int, strip_pv, optV_none, ev_tmp, ev_const, ofConst_int, put_some, at_mk, fits_some, ↓look_cons, ↓vlook_t, ↓vlook_f, guard_none, ↓vrun_nil, ↓code_skip, ↓code_region, ↓onNormal_normal, ↓onBlock_normal, bin_int, int_add, evG_eq, ↓vrun_cons, ↓run1_some, ↓runG_true, ↓run2_none, ↓run3_some, at_hp, Option.map_some, Nat.reduceLT, Nat.reduceBEq, Int.reduceLT, Int.reduceNeg, Int.reduceBEq, true_and, Bool.true_and, beq_self_eq_true, wrap_i64_in, dec_t]
      exact ⟨i.next hlt (by rw [hx]; simp), by show l.length - (i.i + 1) < l.length - i.i; omega, (by refine ⟨rfl, rfl, by simp, ?_, ?_, .inl rfl⟩ <;> (repeat' apply And.intro) <;> first | rfl | trivial)⟩
  · simp (config := { maxSteps := 2000000 }) (implicitDefEqProofs := false) (disch := first | omega | assumption | (simp only []; done) | fail) only [vop_assign, vcallee_assign, strip_pv, optV_none, ev_const, ofConst_int, put_some, at_mk, fits_some, ↓look_cons, ↓vlook_t, guard_none, ↓vrun_nil, ↓code_region, ↓code_seq, ↓code_exit, ↓code_ret, ↓onNormal_normal, ↓onNormal_exit, ↓onBlock_exit, frz_pv, frzHeap_zero, res_one, vres_tmp, evG_eq, ↓vrun_cons, ↓run1_some, ↓runG_true, ↓run2_none, ↓run3_some, ↓vpost_ret, vfin_some, vfin2_some, at_hp, ↓reduceIte, Nat.reduceLT, Int.reduceLT, Int.reduceNeg, true_and, Bool.true_and, beq_self_eq_true, dec_t, dec_f, Ret, DV.nums]
    have := i.all (by omega)
    rw [idxP, if_neg (by simpa using this)]

theorem containsFG_v (l : List Gr) (hl : l.length ≤ 1000000) (g : FuncId) (caps : List DV) (hc : DV.nums.go (fun _ => false) caps = true) (p : Gr → Bool) (hf : ∀ x ∈ l, VCalls Try.prog g (x.d :: caps) [] (Ret (.bool (p x)))) :
    VCalls Try.prog 42 [.pv (.sl (fz encG l)), .fn (.func g) [] caps] [] (Ret (.bool (l.any p))) := by
  refine vcalls_drop (fn := Try.f42) Try.func42 rfl (by kernel_rfl) (by simp [Try.f42]) ?_
  have hi := indexFG_v l hl g caps hc p hf
  simp (config := { maxSteps := 2000000 }) (implicitDefEqProofs := false) (disch := first | omega | assumption | (simp only []; done) | fail) only [vop_move, vcallee_move, vop_assign, vcallee_assign, vcallee_value, vcal_fn, strip_pv, strip_fn, optV_none, ev_tmp, ev_const, ev_func, ofConst_bool, put_some, at_mk, fits_some, ↓look_cons, ↓vlook_t, ↓vlook_f, guard_none, ↓vrun_nil, ↓code_region, ↓code_seq, ↓onNormal_normal, enum_nil, enum_cons, evG_eq, ↓vrun_cons, ↓run1_some, ↓runG_true, ↓run2_none, ↓run2_some, ↓run3_some, at_hp, List.map_nil, List.toList_toArray, List.length_nil, List.map_cons, List.map_nil, List.nil_append, List.append_nil, Nat.reduceAdd, Nat.reduceLT, Nat.reduceBEq, Int.reduceLT, Int.reduceAdd, Int.reduceBEq, Nat.zero_add, true_and, Bool.true_and, beq_self_eq_true, dec_t, Try.f42]
  refine vc_pure hi (by simpa [DV.nums.go, DV.nums] using hc) ?_
  by_cases ha : l.any p = true
  · rw [idxP, if_pos ha]
    simp (config := { maxSteps := 2000000 }) (implicitDefEqProofs := false) (disch := first | omega | assumption | (simp only []; done) | fail) only [vop_assign, vcallee_assign, vop_binOp, vcallee_binOp, bin2_int, strip_pv, optV_none, ev_tmp, ev_const, ofConst_int, put_some, at_mk, fits_some, ↓look_cons, ↓vlook_t, guard_none, ↓vrun_nil, ↓code_ret, ↓onNormal_normal, frz_pv, frzHeap_zero, res_one, vres_tmp, bin_int, int_geq, evG_eq, ↓vrun_cons, ↓run1_some, ↓runG_true, ↓run2_none, ↓run3_some, ↓runK_eq, ↓vpost_ret, vfin_some, vfin2_some, at_hp, Option.map_some, Nat.reduceLT, Int.reduceLT, and_self, Bool.and_self, beq_self_eq_true, dec_t, Ret, DV.nums, ha]
  · have ha' : l.any p = false := by simpa using ha
    rw [idxP, if_neg ha]
    simp (config := { maxSteps := 2000000 }) (implicitDefEqProofs := false) (disch := first | omega | assumption | (simp only []; done) | fail) only [vop_assign, vcallee_assign, vop_binOp, vcallee_binOp, bin2_int, strip_pv, optV_none, ev_tmp, ev_const, ofConst_int, put_some, at_mk, fits_some, ↓look_cons, ↓vlook_t, guard_none, ↓vrun_nil, ↓code_ret, ↓onNormal_normal, frz_pv, frzHeap_zero, res_one, vres_tmp, bin_int, int_geq, evG_eq, ↓vrun_cons, ↓run1_some, ↓runG_true, ↓run2_none, ↓run3_some, ↓runK_eq, ↓vpost_ret, vfin_some, vfin2_some, at_hp, Option.map_some, Nat.reduceLT, Int.reduceLT, Int.reduceLE, Int.reduceNeg, decide_false, and_self, Bool.and_self, beq_self_eq_true, dec_t, Ret, DV.nums, ha']
end Go.Proofs.Ytjiaadkncpajnaa

namespace Go.Proofs.Ytjiaadkncpajnaa
open Go.V Go
set_option maxRecDepth 100000
set_option linter.unusedSimpArgs false

def cmpI (x y : Int) : Int := if x < y then -1 else if y < x then 1 else 0
def ordG (a b : Gr) : Int := if cmpI a.pg b.pg ≠ 0 then cmpI a.pg b.pg else if cmpI a.sl b.sl ≠ 0 then cmpI a.sl b.sl else cmpI a.tx b.tx
def sameL (a b : Gr) : Bool := decide (a.pg = b.pg) && decide (a.sl = b.sl)
def confB (a b : Gr) : Bool := !decide (a.tx = b.tx) && sameL a b && (decide (a.md = 2) || decide (b.md = 2))
def Gr.okB (g : Gr) : Bool := decide (1 ≤ g.tx) && decide (g.tx ≤ 1073741824) && decide (0 ≤ g.pg) && decide (g.pg < 64) && decide (0 ≤ g.sl) && decide (g.sl < 16) && (decide (g.md = 1) || decide (g.md = 2))

theorem cnan_v (x : Int) : VCalls Try.prog 72 [.int .i64 x] [] (Ret (.bool false)) := by
  refine vcalls_drop (fn := Try.f72) Try.func72 rfl (by kernel_rfl) (by simp [Try.f72]) ?_
  simp (config := { maxSteps := 2000000 }) (implicitDefEqProofs := false) (disch := first | omega | assumption | (simp only []; done) | fail) only [vop_move, vcallee_move, vop_assign, vcallee_assign, vop_binOp, vcallee_binOp, bin2_tmp, strip_pv, optV_none, ev_tmp, ev_const, ofConst_bool, put_some, at_mk, fits_some, ↓look_cons, ↓vlook_t, ↓vlook_f, guard_none, ↓vrun_nil, ↓code_region, ↓code_seq, ↓code_ret, ↓onNormal_normal, frz_pv, frzHeap_zero, res_one, vres_tmp, bin_int, int_neq, enum_nil, enum_cons, evG_eq, ↓vrun_cons, ↓run1_some, ↓runG_true, ↓run2_none, ↓run3_some, ↓vpost_ret, vfin_some, vfin2_some, at_hp, List.toList_toArray, List.length_nil, Option.map_some, Nat.reduceLT, Nat.reduceBEq, Int.reduceLT, Int.reduceBEq, Nat.zero_add, and_self, Bool.and_self, beq_self_eq_true, dec_t, int_bne_f, Ret, DV.nums, Try.f72]
theorem compare_v (x y : Int) : VCalls Try.prog 66 [.int .i64 x, .int .i64 y] [] (Ret (.int .i64 (cmpI x y))) := by
  refine vcalls_drop (fn := Try.f66) Try.func66 rfl (by kernel_rfl) (by simp [Try.f66]) ?_
  unfold cmpI
  simp (config := { maxSteps := 2000000 }) (implicitDefEqProofs := false) (disch := first | omega | assumption | (simp only []; done) | fail) only [vop_move, vcallee_move, vop_assign, vcallee_assign, vcallee_value, vcal_fn, strip_pv, strip_fn, optV_none, ev_tmp, ev_const, ev_func, ofConst_int, put_some, at_mk, fits_some, ↓look_cons, ↓vlook_t, ↓vlook_f, guard_none, ↓vrun_nil, ↓code_region, ↓code_seq, ↓onNormal_normal, enum_nil, enum_cons, evG_eq, ↓vrun_cons, ↓run1_some, ↓runG_true, ↓run2_none, ↓run2_some, ↓run3_some, at_hp, List.map_nil, List.toList_toArray, List.length_nil, List.map_cons, List.map_nil, List.nil_append, List.append_nil, Nat.reduceAdd, Nat.reduceLT, Nat.reduceBEq, Int.reduceLT, Int.reduceNeg, Int.reduceAdd, Int.reduceBEq, Nat.zero_add, true_and, Bool.true_and, beq_self_eq_true, dec_t, Try.f66]
  refine vc_pure (cnan_v x) rfl ?_
  simp (config := { maxSteps := 2000000 }) (implicitDefEqProofs := false) (disch := first | omega | assumption | (simp only []; done) | fail) only [vop_move, vcallee_move, vop_assign, vcallee_assign, vcallee_value, vcal_fn, strip_pv, strip_fn, optV_none, ev_tmp, ev_func, put_some, at_mk, fits_some, ↓look_cons, ↓vlook_t, ↓vlook_f, guard_none, ↓vrun_nil, ↓code_region, ↓code_seq, ↓onNormal_normal, evG_eq, ↓vrun_cons, ↓run1_some, ↓runG_true, ↓run2_none, ↓run2_some, ↓run3_some, ↓runK_eq, at_hp, List.map_nil, List.map_cons, List.map_nil, List.nil_append, List.append_nil, Nat.reduceLT, Nat.reduceBEq, Int.reduceLT, Int.reduceNeg, Int.reduceBEq, true_and, Bool.true_and, beq_self_eq_true, dec_t]
  refine vc_pure (cnan_v y) rfl ?_
  by_cases h1 : x < y
  · rw [if_pos h1]
    simp (config := { maxSteps := 2000000 }) (implicitDefEqProofs := false) (disch := first | omega | assumption | (simp only []; done) | fail) only [vop_move, vcallee_move, vop_assign, vcallee_assign, vop_binOp, vcallee_binOp, bin2_tmp, strip_pv, optV_none, ev_tmp, ev_const, ofConst_int, put_some, at_mk, fits_some, ↓look_cons, ↓vlook_t, ↓vlook_f, guard_none, ↓vrun_nil, ↓code_skip, ↓code_region, ↓code_seq, ↓code_ret, ↓onNormal_normal, ↓onNormal_ret, frz_pv, frzHeap_zero, res_one, vres_tmp, bin_int, int_lss, evG_eq, ↓vrun_cons, ↓run1_some, ↓runG_true, ↓run2_none, ↓run3_some, ↓runK_eq, ↓code_cond, ↓vtest_bool, ↓vbr_true, ↓vbr_false, ↓vpost_ret, vfin_some, vfin2_some, at_hp, Option.map_some, Nat.reduceLT, Nat.reduceBEq, Int.reduceLT, Int.reduceNeg, Int.reduceBEq, and_self, Bool.and_self, beq_self_eq_true, dec_t, Ret, DV.nums, h1]
  · rw [if_neg h1]
    by_cases h2 : y < x
    · rw [if_pos h2]
      simp (config := { maxSteps := 2000000 }) (implicitDefEqProofs := false) (disch := first | omega | assumption | (simp only []; done) | fail) only [vop_move, vcallee_move, vop_assign, vcallee_assign, vop_binOp, vcallee_binOp, bin2_tmp, strip_pv, optV_none, ev_tmp, ev_const, ofConst_int, put_some, at_mk, fits_some, ↓look_cons, ↓vlook_t, ↓vlook_f, guard_none, ↓vrun_nil, ↓code_skip, ↓code_region, ↓code_seq, ↓code_ret, ↓onNormal_normal, ↓onNormal_ret, frz_pv, frzHeap_zero, res_one, vres_tmp, bin_int, int_lss, int_gtr, evG_eq, ↓vrun_cons, ↓run1_some, ↓runG_true, ↓run2_none, ↓run3_some, ↓runK_eq, ↓code_cond, ↓vtest_bool, ↓vbr_true, ↓vbr_false, ↓vpost_ret, vfin_some, vfin2_some, at_hp, Option.map_some, Nat.reduceLT, Nat.reduceBEq, Int.reduceLT, Int.reduceNeg, Int.reduceBEq, decide_false, and_self, Bool.and_self, beq_self_eq_true, dec_t, Ret, DV.nums, h1, h2]
    · rw [if_neg h2]
      simp (config := { maxSteps := 2000000 }) (implicitDefEqProofs := false) (disch := first | omega | assumption | (simp only []; done) | fail) only [vop_move, vcallee_move, vop_assign, vcallee_assign, vop_binOp, vcallee_binOp, bin2_tmp, strip_pv, optV_none, ev_tmp, ev_const, ofConst_int, put_some, at_mk, fits_some, ↓look_cons, ↓vlook_t, ↓vlook_f, guard_none, ↓vrun_nil, ↓code_skip, ↓code_region, ↓code_seq, ↓code_ret, ↓onNormal_normal, frz_pv, frzHeap_zero, res_one, vres_tmp, bin_int, int_lss, int_gtr, evG_eq, ↓vrun_cons, ↓run1_some, ↓runG_true, ↓run2_none, ↓run3_some, ↓runK_eq, ↓code_cond, ↓vtest_bool, ↓vbr_false, ↓vpost_ret, vfin_some, vfin2_some, at_hp, Option.map_some, Nat.reduceLT, Nat.reduceBEq, Int.reduceLT, Int.reduceNeg, Int.reduceBEq, decide_false, and_self, Bool.and_self, beq_self_eq_true, dec_t, Ret, DV.nums, h1, h2]
/-- The first that is not zero. -/
def orL (l : List Int) : Int := (l.find? fun x => x != 0).getD 0
theorem or_v (l : List Int) (hl : l.length ≤ 1000000) : VCalls Try.prog 65 [.pv (.sl (fz encI l))] [] (Ret (.int .i64 (orL l))) := by
  refine vcalls_drop (fn := Try.f65) Try.func65 rfl (by kernel_rfl) (by simp [Try.f65]) ?_
  simp (config := { maxSteps := 2000000 }) (implicitDefEqProofs := false) (disch := first | omega | assumption | (simp only []; done) | fail) only [vop_move, vcallee_move, vop_assign, vcallee_assign, vop_builtin, vcallee_builtin, strip_pv, optV_none, ev_tmp, ev_const, ofConst_int, put_some, at_mk, fits_some, ↓look_cons, ↓vlook_t, ↓vlook_f, guard_none, ↓vrun_nil, ↓code_region, ↓code_seq, ↓code_block, ↓code_loop, ↓onNormal_normal, len_sl, vlk_sl, bi_len, enum_nil, enum_cons, evG_eq, ↓vrun_cons, ↓run1_some, ↓runG_true, ↓run2_none, ↓run3_some, at_hp, List.map_nil, List.toList_toArray, List.length_nil, List.map_cons, List.map_nil, Option.map_some, Nat.reduceLT, Nat.reduceBEq, Int.reduceLT, Int.reduceBEq, Nat.zero_add, true_and, Bool.true_and, beq_self_eq_true, fz_len, Try.vkind49, dec_t, Try.f65]
  refine vloop (fun i : Pass l (fun x => (x != 0) = true) => ⟨18, 0, [(8, .int .i64 i.i), (7, .int .i64 l.length), (6, .pv (.sl (fz encI l))), (3, .int .i64 0)], []⟩) (fun i => l.length - i.i) (Pass.start l _) (by refine ⟨rfl, rfl, by simp, ?_, ?_, .inl rfl⟩ <;> (repeat' apply And.intro) <;> first | rfl | trivial) ?_
  intro i
  have hi := i.hi
  simp (config := { maxSteps := 2000000 }) (implicitDefEqProofs := false) (disch := first | omega | assumption | (simp only []; done) | fail) only [vop_binOp, vcallee_binOp, bin2_tmp, strip_pv, optV_none, ev_tmp, put_some, at_mk, fits_some, ↓look_cons, ↓vlook_t, ↓vlook_f, guard_none, ↓vrun_nil, ↓code_region, ↓code_seq, ↓onNormal_normal, bin_int, int_lss, evG_eq, ↓vrun_cons, ↓run1_some, ↓runG_true, ↓run2_none, ↓run3_some, ↓code_cond, ↓vtest_bool, Option.map_some, Nat.reduceLT, Nat.reduceBEq, Int.reduceLT, Int.reduceBEq, true_and, Bool.true_and, beq_self_eq_true, dec_t]
  refine vbr_split (fun hc1 => ?_) (fun hc1 => ?_) <;> simp only [decide_eq_true_eq, decide_eq_false_iff_not, Bool.or_eq_true, Bool.and_eq_true, Bool.or_eq_false_iff, Bool.and_eq_false_imp, Bool.not_eq_true', Bool.not_eq_false', beq_iff_eq, beq_eq_false_iff_ne, bne_iff_ne, bne_eq_false_iff_eq, ne_eq] at hc1
  · have hlt : i.i < l.length := by omega
    have hg : (fz encI l)[i.i]? = some [.lit (.int .i64 l[i.i])] := fz_at encI l i.i hlt
    simp (config := { maxSteps := 2000000 }) (implicitDefEqProofs := false) (disch := first | omega | assumption | (simp only [List.length_cons, List.length_nil, Nat.zero_add]; done) | fail) only [vop_move, vcallee_move, vop_assign, vcallee_assign, vop_load, vcallee_load, vop_binOp, vcallee_binOp, vop_indexAddr, vcallee_indexAddr, bin2_tmp, strip_pv, strip_ip, optV_none, ev_tmp, put_some, at_mk, fits_some, ↓look_cons, ↓vlook_t, ↓vlook_f, guard_none, ↓vrun_nil, ↓code_skip, ↓code_region, ↓code_seq, ↓code_block, ↓onNormal_normal, load_ip, vldp_one, iaddr_sl, vias_some, bin_int, int_neq, evG_eq, ↓vrun_cons, ↓run1_some, ↓runG_true, ↓run2_none, ↓run3_some, ↓code_cond, ↓vtest_bool, at_hp, List.getElem?_cons_zero, Option.map_some, Nat.reduceLT, Nat.reduceBEq, Int.reduceLT, Int.reduceBEq, Int.toNat_natCast, true_and, Bool.true_and, beq_self_eq_true, Try.vt3, Try.velem49, dec_t, hg]
    refine vbr_split (fun hx => ?_) (fun hx => ?_)
    · simp (config := { maxSteps := 2000000 }) (implicitDefEqProofs := false) (disch := first | omega | assumption | (simp only []; done) | fail) only [vop_move, vcallee_move, vop_assign, vcallee_assign, strip_pv, optV_none, ev_tmp, put_some, at_mk, fits_some, ↓look_cons, ↓vlook_t, ↓vlook_f, guard_none, ↓vrun_nil, ↓code_region, ↓code_seq, ↓code_ret, ↓onNormal_normal, ↓onNormal_ret, ↓onBlock_ret, frz_pv, frzHeap_zero, res_one, vres_tmp, evG_eq, ↓vrun_cons, ↓run1_some, ↓runG_true, ↓run2_none, ↓run3_some, ↓vpost_ret, vfin_some, vfin2_some, at_hp, Nat.reduceLT, Nat.reduceBEq, Int.reduceLT, Int.reduceBEq, true_and, Bool.true_and, beq_self_eq_true, dec_t, Ret, DV.nums]
      have : l.find? (fun x => x != 0) = some l[i.i] := by
        rw [List.find?_eq_some_iff_getElem]
        refine ⟨hx, i.i, hlt, rfl, fun j hj => ?_⟩
        have := i.no l[j] (List.mem_take_iff_getElem.2 ⟨j, by omega, rfl⟩)
        simpa using this
      rw [orL, this]; rfl
    · simp (config := { maxSteps := 2000000 }) (implicitDefEqProofs := false) (disch := first | omega | assumption | (simp only []; done) | fail) only [vop_move, vcallee_move, vop_binOp, vcallee_binOp, bin2_int, strip_pv, optV_none, ev_tmp, ev_const, ofConst_int, put_some, at_mk, fits_some, ↓look_cons, ↓vlook_t, ↓vlook_f, guard_none, ↓vrun_nil, ↓code_skip, ↓code_region, ↓onNormal_normal, ↓onBlock_normal, bin_int, int_add, evG_eq, ↓vrun_cons, ↓run1_some, ↓runG_true, ↓run2_none, ↓run3_some, at_hp, Option.map_some, Nat.reduceLT, Nat.reduceBEq, Int.reduceLT, Int.reduceBEq, true_and, Bool.true_and, beq_self_eq_true, wrap_i64_in, dec_t]
      exact ⟨i.next hlt (by rw [hx]; simp), by show l.length - (i.i + 1) < l.length - i.i; omega, (by refine ⟨rfl, rfl, by simp, ?_, ?_, .inl rfl⟩ <;> (repeat' apply And.intro) <;> first | rfl | trivial)⟩
  · simp (config := { maxSteps := 2000000 }) (implicitDefEqProofs := false) (disch := first | omega | assumption | (simp only []; done) | fail) only [vop_move, vcallee_move, vop_assign, vcallee_assign, strip_pv, optV_none, ev_tmp, put_some, at_mk, fits_some, ↓look_cons, ↓vlook_t, ↓vlook_f, guard_none, ↓vrun_nil, ↓code_region, ↓code_seq, ↓code_exit, ↓code_ret, ↓onNormal_normal, ↓onNormal_exit, ↓onBlock_exit, frz_pv, frzHeap_zero, res_one, vres_tmp, evG_eq, ↓vrun_cons, ↓run1_some, ↓runG_true, ↓run2_none, ↓run3_some, ↓vpost_ret, vfin_some, vfin2_some, at_hp, ↓reduceIte, Nat.reduceLT, Nat.reduceBEq, Int.reduceLT, Int.reduceBEq, true_and, Bool.true_and, beq_self_eq_true, dec_t, dec_f, Ret, DV.nums]
    have := i.all (by omega)
    have hn : l.find? (fun x => x != 0) = none := by rw [List.find?_eq_none]; exact this
    rw [orL, hn]; rfl
theorem allEq_w (a b c d : Int) : allEq [.pv (.lit (.int .i64 a)), .pv (.lit (.int .i64 b))] [.pv (.lit (.int .i64 c)), .pv (.lit (.int .i64 d))] [(0, 1), (1, 1)] = some (decide (a = c) && decide (b = d)) := by
  simp [allEq, leafEq]
  rfl
theorem orL3 (x y z : Int) : orL [x, y, z] = if x ≠ 0 then x else if y ≠ 0 then y else z := by
  unfold orL
  by_cases h1 : x = 0
  · by_cases h2 : y = 0
    · by_cases h3 : z = 0 <;> simp [h1, h2, h3]
    · simp [h1, h2]
  · simp [h1]
theorem allSome1 {α : Type} {x : Option α} {a : α} (hx : x = some a) : allSome [x] = some [a] := by subst hx; rfl
theorem order_v (a b : Gr) : VCalls Try.prog 40 [a.d, b.d] [] (Ret (.int .i64 (ordG a b))) := by
  refine vcalls_drop (fn := Try.f40) Try.func40 rfl (by kernel_rfl) (by simp [Try.f40]) ?_
  simp (config := { maxSteps := 2000000 }) (implicitDefEqProofs := false) (disch := first | omega | assumption | (simp only []; done) | fail) only [vop_assign, vcallee_assign, vop_box, vcallee_box, strip_pv, strip_agg, optV_none, ev_tmp, ev_const, ofConst_int, put_some, at_mk, fits_some, ↓look_cons, ↓vlook_t, ↓vlook_f, guard_none, ↓vrun_nil, ↓code_region, ↓code_draw, ↓code_seq, ↓onNormal_normal, box_eq, allOne_nil, allOne_cons, one_pv, enum_nil, enum_cons, evG_eq, ↓vrun_cons, ↓run1_some, ↓runG_true, ↓run2_none, ↓run3_some, at_hp, dcells, List.toList_toArray, List.length_cons, List.length_nil, List.cons_append, List.nil_append, ↓reduceIte, Nat.reduceAdd, Nat.reduceLT, Nat.reduceBEq, Int.reduceLT, Int.reduceAdd, Int.reduceBEq, Nat.zero_add, true_and, and_self, Bool.true_and, Bool.and_self, beq_self_eq_true, dec_t, Try.f40, Gr.d]
  refine vspine [0, 1, 2, 3, 4, 5, 7, 8, 9, 10, 11, 12, 14, 15, 16, 17] [⟨[], [], 6, [0, 1, 3, 4, 7, 8, 9, 10, 11, 12, 14, 15, 16, 17], []⟩, ⟨[], [], 13, [0, 1, 2, 3, 4, 5, 7, 8, 10, 11, 14, 15, 16, 17], []⟩, ⟨[], [], 18, [0, 1, 2, 3, 4, 5, 7, 8, 9, 10, 11, 12, 14, 16], []⟩, ⟨[19], [19], 20, [0, 1, 2, 3, 4, 5, 7, 8, 9, 10, 11, 12, 14, 15, 16, 17], []⟩, ⟨[], [], 21, [], []⟩] (by kernel_rfl) (by kernel_rfl) ?_
  simp (config := { maxSteps := 2000000 }) (implicitDefEqProofs := false) (disch := first | omega | assumption | (simp only []; done) | fail) only [vop_load, vcallee_load, vop_fieldAddr, vcallee_fieldAddr, vcallee_value, vcal_fn, strip_pv, strip_ptr, strip_fn, optV_none, ev_tmp, ev_func, put_some, at_mk, fits_some, ↓look_cons, ↓vlook_t, ↓vlook_f, guard_none, ↓vrun_nil, load_ptr, vld_one, blk_zero, blk_succ, faddr_ptr, vfap_some, evG_eq, ↓vrun_cons, ↓run1_some, ↓runG_true, ↓run2_none, ↓run2_some, ↓run3_some, at_hp, List.map_nil, List.getElem?_cons_zero, List.getElem?_cons_succ, List.map_cons, List.map_nil, List.nil_append, List.append_nil, Option.map_some, ↓reduceIte, reduceCtorEq, Nat.reduceAdd, Nat.reduceLT, Nat.reduceBEq, Int.reduceLT, Int.reduceAdd, Int.reduceBEq, Nat.zero_add, Nat.add_zero, true_and, Bool.true_and, beq_self_eq_true, ↓vsp_cons, vspC_true, vspR_eq, pick_nil, pick_cons, pickO_some, creas_nil, Try.vt3, Try.vfield28x0, Try.vfield28x1, Try.vfield33x0, Try.vfield33x1, dec_t]
  refine vc_pure (compare_v _ _) rfl ?_
  simp (config := { maxSteps := 2000000 }) (implicitDefEqProofs := false) (disch := first | omega | assumption | (simp only []; done) | fail) only [foot_fieldAddr, foot_load, vcallee_value, vcal_fn, ptrNo_ptr, strip_pv, strip_ptr, strip_fn, optV_none, ev_tmp, ev_func, put_some, at_mk, fits_some, ↓look_cons, ↓vlook_t, ↓vlook_f, guard_none, ↓vrun_nil, evG_eq, ↓vrun_cons, ↓run1_some, ↓runG_true, ↓run2_some, ↓runK_eq, at_hp, List.map_nil, List.getElem?_cons_zero, List.getElem?_cons_succ, List.map_cons, List.map_nil, List.nil_append, List.append_nil, Nat.reduceLT, Nat.reduceBEq, Int.reduceLT, Int.reduceBEq, true_and, and_self, Bool.true_and, Bool.and_self, beq_self_eq_true, ↓vsp_cons, ↓vspK_eq, vspC_true, vspR_eq, pick_nil, pick_cons, pickO_some, creas_nil, agree_nil, agree_cons, agree1_some, sameAt_nil, sameAt_cons, dec_t]
  refine vc_pure (compare_v _ _) rfl ?_
  simp (config := { maxSteps := 2000000 }) (implicitDefEqProofs := false) (disch := first | omega | assumption | (simp only []; done) | fail) only [foot_fieldAddr, foot_load, vcallee_value, vcal_fn, ptrNo_ptr, strip_pv, strip_ptr, strip_fn, optV_none, ev_tmp, ev_func, put_some, at_mk, fits_some, ↓look_cons, ↓vlook_t, ↓vlook_f, guard_none, ↓vrun_nil, evG_eq, ↓vrun_cons, ↓run1_some, ↓runG_true, ↓run2_some, ↓runK_eq, at_hp, List.map_nil, List.getElem?_cons_zero, List.getElem?_cons_succ, List.map_cons, List.map_nil, List.nil_append, List.append_nil, Nat.reduceLT, Nat.reduceBEq, Int.reduceLT, Int.reduceBEq, true_and, and_self, Bool.true_and, Bool.and_self, beq_self_eq_true, ↓vsp_cons, ↓vspK_eq, vspC_true, vspR_eq, pick_nil, pick_cons, pickO_some, creas_nil, agree_nil, agree_cons, agree1_some, sameAt_nil, sameAt_cons, dec_t]
  refine vc_pure (compare_v _ _) rfl ?_
  simp (config := { maxSteps := 2000000 }) (implicitDefEqProofs := false) (disch := first | omega | assumption | (simp only []; done) | fail) only [vop_buildSlice, vcallee_buildSlice, foot_fieldAddr, foot_load, vcallee_value, vcal_fn, ptrNo_ptr, strip_pv, strip_ptr, strip_own, strip_fn, optV_none, ev_tmp, ev_func, put_some, at_mk, fits_some, ↓look_cons, ↓vlook_t, ↓vlook_f, guard_none, ↓vrun_nil, allOne_nil, allOne_cons, one_pv, parts_nil, parts_cons, evG_eq, ↓vrun_cons, ↓run1_some, ↓runG_true, ↓run2_none, ↓run2_some, ↓run3_some, ↓runK_eq, at_hp, List.map_nil, dcells, vfill, vbuildSlice, V.mk, V.splice, List.toList_toArray, List.getElem?_cons_zero, List.getElem?_cons_succ, List.length_cons, List.length_nil, List.map_cons, List.map_nil, List.cons_append, List.nil_append, List.append_nil, List.take_succ_cons, List.take_zero, List.drop_succ_cons, List.drop_zero, List.drop_nil, Option.map_some, ↓reduceIte, Nat.reduceAdd, Nat.reduceLT, Nat.reduceLeDiff, Nat.reduceBEq, Int.reduceLT, Int.reduceAdd, Int.reduceBEq, Nat.zero_add, Nat.mul_one, true_and, and_self, Bool.true_and, Bool.and_self, beq_self_eq_true, Nat.le_refl, ↓vsp_cons, ↓vspK_eq, vspC_true, vspR_eq, pick_nil, pick_cons, pickO_some, creas_nil, creas_cons, creaOk_eq, creaM_own, creaOk2_some, agree_nil, agree_cons, agree1_some, sameAt_nil, sameAt_cons, Op.operands, DV.wk.go, Try.vzero3, Try.velem49, dec_t, DV.nums, DV.nums.go]
  have ho := or_v [cmpI a.pg b.pg, cmpI a.sl b.sl, cmpI a.tx b.tx] (by simp)
  rw [orL3] at ho
  refine vc_lendA ho (allSome1 (frzA_own encI [cmpI a.pg b.pg, cmpI a.sl b.sl, cmpI a.tx b.tx] rfl)) rfl ?_
  simp (config := { maxSteps := 2000000 }) (implicitDefEqProofs := false) (disch := first | omega | assumption | (simp only []; done) | fail) only [vop_assign, vcallee_assign, foot_fieldAddr, foot_load, ptrNo_ptr, strip_pv, strip_ptr, optV_none, ev_tmp, put_some, at_mk, fits_some, ↓look_cons, ↓vlook_t, ↓vlook_f, guard_none, ↓vrun_nil, ↓code_ret, ↓onNormal_normal, frz_pv, frzHeap_zero, res_one, vres_tmp, evG_eq, ↓vrun_cons, ↓run1_some, ↓runG_true, ↓run2_none, ↓run3_some, ↓runK_eq, ↓vpost_ret, vfin_some, vfin2_some, at_hp, List.getElem?_cons_zero, List.getElem?_cons_succ, List.nil_append, Nat.reduceLT, Nat.reduceBEq, Int.reduceLT, Int.reduceBEq, true_and, and_self, ne_eq, Bool.true_and, Bool.and_self, beq_self_eq_true, ↓vsp_nil, ↓vsp_cons, ↓vspK_eq, vspC_true, vspR_eq, pick_nil, pick_cons, pickO_some, creas_nil, agree_nil, agree_cons, agree1_some, sameAt_nil, sameAt_cons, dec_t, Ret, DV.nums]
  rfl
theorem conflict_v (a b : Gr) : VCalls Try.prog 41 [a.d, b.d] [] (Ret (.bool (confB a b))) := by
  refine vcalls_drop (fn := Try.f41) Try.func41 rfl (by kernel_rfl) (by simp [Try.f41]) ?_
  unfold confB sameL
  by_cases h1 : a.tx = b.tx
  · simp (config := { maxSteps := 2000000 }) (implicitDefEqProofs := false) (disch := first | omega | assumption | (simp only []; done) | fail) only [vop_move, vcallee_move, vop_assign, vcallee_assign, vop_pick, vcallee_pick, vop_box, vcallee_box, vop_load, vcallee_load, vop_binOp, vcallee_binOp, vop_fieldAddr, vcallee_fieldAddr, bin2_tmp, vpick_bool, strip_pv, strip_ptr, strip_agg, strip_tup, optV_none, ev_tmp, ev_const, ofConst_bool, put_some, at_mk, fits_some, ↓look_cons, ↓vlook_t, ↓vlook_f, guard_none, guard_some, vgof_bool, vgof_skip, ↓vrun_nil, ↓code_region, ↓code_seq, ↓code_ret, ↓onNormal_normal, frz_pv, frzHeap_zero, res_one, vres_tmp, load_ptr, vld_one, blk_zero, blk_succ, box_eq, allOne_nil, allOne_cons, one_pv, faddr_ptr, vfap_some, bin_int, int_neq, enum_nil, enum_cons, evG_eq, ↓vrun_cons, ↓run1_some, ↓runG_true, ↓runG_false, ↓run2_none, ↓run3_some, ↓vpost_ret, vfin_some, vfin2_some, at_hp, pickV_f, dcells, List.toList_toArray, List.getElem?_cons_zero, List.getElem?_cons_succ, List.length_cons, List.length_nil, List.cons_append, List.nil_append, Option.map_some, Option.bind_some, ↓reduceIte, reduceCtorEq, Nat.reduceAdd, Nat.reduceLT, Nat.reduceBEq, Int.reduceLT, Int.reduceAdd, Int.reduceBEq, Nat.zero_add, Nat.add_zero, and_self, false_and, Bool.not_true, Bool.not_false, Bool.false_and, Bool.and_self, b_beq_t, beq_self_eq_true, Try.vt3, Try.vfield33x0, dec_t, int_bne_f, Ret, DV.nums, Try.f41, Gr.d, h1]
  by_cases h2 : a.pg = b.pg
  · by_cases h3 : a.sl = b.sl
    · by_cases h4 : a.md = 2
      · simp (config := { maxSteps := 2000000 }) (implicitDefEqProofs := false) (disch := first | omega | assumption | (simp only []; done) | fail) only [vop_move, vcallee_move, vop_assign, vcallee_assign, vop_pick, vcallee_pick, vop_box, vcallee_box, vop_load, vcallee_load, vop_binOp, vcallee_binOp, vop_fieldAddr, vcallee_fieldAddr, bin2_tmp, bin2_int, vpick_bool, strip_pv, strip_ptr, strip_agg, strip_tup, strip_opt, vstr_true, optV_none, optV_some, pickV_bool, ev_tmp, ev_const, ofConst_int, ofConst_bool, put_some, at_mk, fits_some, ↓look_cons, ↓vlook_t, ↓vlook_f, guard_none, guard_some, vgof_bool, vgof_opt, ↓vrun_nil, ↓code_region, ↓code_seq, ↓code_ret, ↓onNormal_normal, frz_pv, frzHeap_zero, res_one, vres_tmp, load_ptr, vld_one, vld_agg, blk_zero, blk_succ, box_eq, allOne_nil, allOne_cons, one_pv, faddr_ptr, vfap_some, bin_int, int_eql, int_neq, enum_nil, enum_cons, evG_eq, ↓vrun_cons, ↓run1_some, ↓runG_true, ↓runG_false, ↓run2_none, ↓run3_some, ↓vpost_ret, vfin_some, vfin2_some, at_hp, bin_agg, vba_eql, pickV_t, dcells, List.toList_toArray, List.getElem?_cons_zero, List.getElem?_cons_succ, List.length_cons, List.length_nil, List.cons_append, List.nil_append, List.take_succ_cons, List.take_zero, List.drop_succ_cons, List.drop_zero, Option.map_some, Option.bind_some, ↓reduceIte, reduceCtorEq, Nat.reduceAdd, Nat.reduceLT, Nat.reduceLeDiff, Nat.reduceBEq, Int.reduceLT, Int.reduceAdd, Int.reduceBEq, Nat.zero_add, Nat.add_zero, decide_false, and_self, and_false, true_or, or_true, Bool.not_true, Bool.not_false, Bool.or_true, Bool.true_or, Bool.and_false, Bool.and_self, b_beq_f, cond_true, beq_self_eq_true, Try.vt3, Try.vt28, Try.leaves28, Try.eqg28, Try.vfield33x0, Try.vfield33x1, Try.vfield33x2, dec_t, int_bne_t, Ret, DV.nums, Try.f41, Gr.d, h1, h2, h3, h4, allEq_w]
      · by_cases h5 : b.md = 2 <;> simp (config := { maxSteps := 2000000 }) (implicitDefEqProofs := false) (disch := first | omega | assumption | (simp only []; done) | fail) only [vop_move, vcallee_move, vop_assign, vcallee_assign, vop_pick, vcallee_pick, vop_box, vcallee_box, vop_load, vcallee_load, vop_binOp, vcallee_binOp, vop_fieldAddr, vcallee_fieldAddr, bin2_tmp, bin2_int, vpick_bool, strip_pv, strip_ptr, strip_agg, strip_opt, vstr_true, optV_none, optV_some, pickV_bool, ev_tmp, ev_const, ofConst_int, ofConst_bool, put_some, at_mk, fits_some, ↓look_cons, ↓vlook_t, ↓vlook_f, guard_none, guard_some, vgof_bool, vgof_opt, ↓vrun_nil, ↓code_region, ↓code_seq, ↓code_ret, ↓onNormal_normal, frz_pv, frzHeap_zero, res_one, vres_tmp, load_ptr, vld_one, vld_agg, blk_zero, blk_succ, box_eq, allOne_nil, allOne_cons, one_pv, faddr_ptr, vfap_some, bin_int, int_eql, int_neq, enum_nil, enum_cons, evG_eq, ↓vrun_cons, ↓run1_some, ↓runG_true, ↓run2_none, ↓run3_some, ↓vpost_ret, vfin_some, vfin2_some, at_hp, bin_agg, vba_eql, dcells, List.toList_toArray, List.getElem?_cons_zero, List.getElem?_cons_succ, List.length_cons, List.length_nil, List.cons_append, List.nil_append, List.take_succ_cons, List.take_zero, List.drop_succ_cons, List.drop_zero, Option.map_some, Option.bind_some, ↓reduceIte, reduceCtorEq, Nat.reduceAdd, Nat.reduceLT, Nat.reduceLeDiff, Nat.reduceBEq, Int.reduceLT, Int.reduceAdd, Int.reduceBEq, Nat.zero_add, Nat.add_zero, decide_false, and_self, and_false, or_true, or_self, Bool.not_true, Bool.not_false, Bool.or_true, Bool.and_false, Bool.or_self, Bool.and_self, cond_true, cond_false, Bool.cond_self, beq_self_eq_true, Try.vt3, Try.vt28, Try.leaves28, Try.eqg28, Try.vfield33x0, Try.vfield33x1, Try.vfield33x2, dec_t, int_beq_f, int_bne_t, Ret, DV.nums, Try.f41, Gr.d, h1, h2, h3, h4, h5, allEq_w]
    · simp (config := { maxSteps := 2000000 }) (implicitDefEqProofs := false) (disch := first | omega | assumption | (simp only []; done) | fail) only [vop_move, vcallee_move, vop_assign, vcallee_assign, vop_pick, vcallee_pick, vop_box, vcallee_box, vop_load, vcallee_load, vop_binOp, vcallee_binOp, vop_fieldAddr, vcallee_fieldAddr, bin2_tmp, vpick_bool, strip_pv, strip_ptr, strip_agg, strip_tup, strip_opt, vstr_true, optV_none, optV_some, pickV_bool, ev_tmp, ev_const, ofConst_bool, put_some, at_mk, fits_some, ↓look_cons, ↓vlook_t, ↓vlook_f, guard_none, guard_some, vgof_bool, vgof_skip, ↓vrun_nil, ↓code_region, ↓code_seq, ↓code_ret, ↓onNormal_normal, frz_pv, frzHeap_zero, res_one, vres_tmp, load_ptr, vld_one, vld_agg, blk_zero, blk_succ, box_eq, allOne_nil, allOne_cons, one_pv, faddr_ptr, vfap_some, bin_int, int_neq, enum_nil, enum_cons, evG_eq, ↓vrun_cons, ↓run1_some, ↓runG_true, ↓runG_false, ↓run2_none, ↓run3_some, ↓vpost_ret, vfin_some, vfin2_some, at_hp, bin_agg, vba_eql, pickV_f, dcells, List.toList_toArray, List.getElem?_cons_zero, List.getElem?_cons_succ, List.length_cons, List.length_nil, List.cons_append, List.nil_append, List.take_succ_cons, List.take_zero, List.drop_succ_cons, List.drop_zero, Option.map_some, Option.bind_some, ↓reduceIte, reduceCtorEq, Nat.reduceAdd, Nat.reduceLT, Nat.reduceLeDiff, Nat.reduceBEq, Int.reduceLT, Int.reduceAdd, Int.reduceBEq, Nat.zero_add, Nat.add_zero, decide_false, and_self, false_and, and_false, or_true, Bool.not_true, Bool.not_false, Bool.or_true, Bool.and_false, Bool.false_and, Bool.and_self, b_beq_t, Bool.cond_self, beq_self_eq_true, Try.vt3, Try.vt28, Try.leaves28, Try.eqg28, Try.vfield33x0, Try.vfield33x1, dec_t, int_bne_t, Ret, DV.nums, Try.f41, Gr.d, h1, h2, h3, allEq_w]
  · simp (config := { maxSteps := 2000000 }) (implicitDefEqProofs := false) (disch := first | omega | assumption | (simp only []; done) | fail) only [vop_move, vcallee_move, vop_assign, vcallee_assign, vop_pick, vcallee_pick, vop_box, vcallee_box, vop_load, vcallee_load, vop_binOp, vcallee_binOp, vop_fieldAddr, vcallee_fieldAddr, bin2_tmp, vpick_bool, strip_pv, strip_ptr, strip_agg, strip_tup, strip_opt, vstr_true, optV_none, optV_some, pickV_bool, ev_tmp, ev_const, ofConst_bool, put_some, at_mk, fits_some, ↓look_cons, ↓vlook_t, ↓vlook_f, guard_none, guard_some, vgof_bool, vgof_skip, ↓vrun_nil, ↓code_region, ↓code_seq, ↓code_ret, ↓onNormal_normal, frz_pv, frzHeap_zero, res_one, vres_tmp, load_ptr, vld_one, vld_agg, blk_zero, blk_succ, box_eq, allOne_nil, allOne_cons, one_pv, faddr_ptr, vfap_some, bin_int, int_neq, enum_nil, enum_cons, evG_eq, ↓vrun_cons, ↓run1_some, ↓runG_true, ↓runG_false, ↓run2_none, ↓run3_some, ↓vpost_ret, vfin_some, vfin2_some, at_hp, bin_agg, vba_eql, pickV_f, dcells, List.toList_toArray, List.getElem?_cons_zero, List.getElem?_cons_succ, List.length_cons, List.length_nil, List.cons_append, List.nil_append, List.take_succ_cons, List.take_zero, List.drop_succ_cons, List.drop_zero, Option.map_some, Option.bind_some, ↓reduceIte, reduceCtorEq, Nat.reduceAdd, Nat.reduceLT, Nat.reduceLeDiff, Nat.reduceBEq, Int.reduceLT, Int.reduceAdd, Int.reduceBEq, Nat.zero_add, Nat.add_zero, decide_false, and_self, false_and, and_false, or_true, Bool.not_true, Bool.not_false, Bool.or_true, Bool.and_false, Bool.false_and, Bool.and_self, b_beq_t, Bool.cond_self, beq_self_eq_true, Try.vt3, Try.vt28, Try.leaves28, Try.eqg28, Try.vfield33x0, Try.vfield33x1, dec_t, int_bne_t, Ret, DV.nums, Try.f41, Gr.d, h1, h2, allEq_w]
set_option maxHeartbeats 4000000 in
theorem valid1_v (g : Gr) : VCalls Try.prog 32 [g.d] [] (Ret (.bool g.okB)) := by
  refine vcalls_drop (fn := Try.f32) Try.func32 rfl (by kernel_rfl) (by simp [Try.f32]) ?_
  by_cases h1 : 1 ≤ g.tx
  case neg =>
    have e : g.okB = false := by simp [Gr.okB, h1]
    rw [e]
    simp (config := { maxSteps := 2000000 }) (implicitDefEqProofs := false) (disch := first | omega | assumption | (simp only []; done) | fail) only [vop_move, vcallee_move, vop_assign, vcallee_assign, vop_pick, vcallee_pick, vop_box, vcallee_box, vop_load, vcallee_load, vop_binOp, vcallee_binOp, vop_fieldAddr, vcallee_fieldAddr, bin2_int, vpick_bool, strip_pv, strip_ptr, strip_agg, strip_tup, optV_none, ev_tmp, ev_const, ofConst_int, ofConst_bool, put_some, at_mk, fits_some, ↓look_cons, ↓vlook_t, ↓vlook_f, guard_none, guard_some, vgof_bool, vgof_skip, ↓vrun_nil, ↓code_region, ↓code_seq, ↓code_ret, ↓onNormal_normal, frz_pv, frzHeap_zero, res_one, vres_tmp, load_ptr, vld_one, blk_zero, box_eq, allOne_nil, allOne_cons, one_pv, faddr_ptr, vfap_some, bin_int, int_geq, enum_nil, enum_cons, evG_eq, ↓vrun_cons, ↓run1_some, ↓runG_true, ↓runG_false, ↓run2_none, ↓run3_some, ↓vpost_ret, vfin_some, vfin2_some, at_hp, pickV_f, dcells, List.toList_toArray, List.getElem?_cons_zero, List.getElem?_cons_succ, List.length_nil, List.nil_append, Option.map_some, Option.bind_some, ↓reduceIte, reduceCtorEq, Nat.reduceLT, Nat.reduceBEq, Int.reduceLT, Int.reduceBEq, Nat.zero_add, Nat.add_zero, decide_false, and_self, Bool.not_false, Bool.and_self, b_beq_t, beq_self_eq_true, Try.vt3, Try.vfield33x0, dec_t, Ret, DV.nums, Try.f32, Gr.d, h1]
  by_cases h2 : g.tx ≤ 1073741824
  case neg =>
    have e : g.okB = false := by simp [Gr.okB, h2]
    rw [e]
    simp (config := { maxSteps := 2000000 }) (implicitDefEqProofs := false) (disch := first | omega | assumption | (simp only []; done) | fail) only [vop_move, vcallee_move, vop_assign, vcallee_assign, vop_pick, vcallee_pick, vop_box, vcallee_box, vop_load, vcallee_load, vop_binOp, vcallee_binOp, vop_fieldAddr, vcallee_fieldAddr, bin2_int, vpick_bool, strip_pv, strip_ptr, strip_agg, strip_tup, strip_opt, vstr_true, optV_none, optV_some, pickV_bool, ev_tmp, ev_const, ofConst_int, ofConst_bool, put_some, at_mk, fits_some, ↓look_cons, ↓vlook_t, ↓vlook_f, guard_none, guard_some, vgof_bool, vgof_skip, ↓vrun_nil, ↓code_region, ↓code_seq, ↓code_ret, ↓onNormal_normal, frz_pv, frzHeap_zero, res_one, vres_tmp, load_ptr, vld_one, blk_zero, box_eq, allOne_nil, allOne_cons, one_pv, faddr_ptr, vfap_some, bin_int, int_leq, int_geq, enum_nil, enum_cons, evG_eq, ↓vrun_cons, ↓run1_some, ↓runG_true, ↓runG_false, ↓run2_none, ↓run3_some, ↓vpost_ret, vfin_some, vfin2_some, at_hp, pickV_f, dcells, List.toList_toArray, List.getElem?_cons_zero, List.getElem?_cons_succ, List.length_nil, List.nil_append, Option.map_some, Option.bind_some, ↓reduceIte, reduceCtorEq, Nat.reduceLT, Nat.reduceBEq, Int.reduceLT, Int.reduceBEq, Nat.zero_add, Nat.add_zero, decide_false, and_self, or_true, Bool.not_true, Bool.not_false, Bool.or_true, Bool.and_self, b_beq_t, Bool.cond_self, beq_self_eq_true, Try.vt3, Try.vfield33x0, dec_t, Ret, DV.nums, Try.f32, Gr.d, h1, h2]
  by_cases h3 : 0 ≤ g.pg
  case neg =>
    have e : g.okB = false := by simp [Gr.okB, h3]
    rw [e]
    simp (config := { maxSteps := 2000000 }) (implicitDefEqProofs := false) (disch := first | omega | assumption | (simp only []; done) | fail) only [vop_move, vcallee_move, vop_assign, vcallee_assign, vop_pick, vcallee_pick, vop_box, vcallee_box, vop_load, vcallee_load, vop_binOp, vcallee_binOp, vop_fieldAddr, vcallee_fieldAddr, bin2_int, vpick_bool, strip_pv, strip_ptr, strip_agg, strip_tup, strip_opt, vstr_true, optV_none, optV_some, pickV_bool, ev_tmp, ev_const, ofConst_int, ofConst_bool, put_some, at_mk, fits_some, ↓look_cons, ↓vlook_t, ↓vlook_f, guard_none, guard_some, vgof_bool, vgof_skip, ↓vrun_nil, ↓code_region, ↓code_seq, ↓code_ret, ↓onNormal_normal, frz_pv, frzHeap_zero, res_one, vres_tmp, load_ptr, vld_one, blk_zero, box_eq, allOne_nil, allOne_cons, one_pv, faddr_ptr, vfap_some, bin_int, int_leq, int_geq, enum_nil, enum_cons, evG_eq, ↓vrun_cons, ↓run1_some, ↓runG_true, ↓runG_false, ↓run2_none, ↓run3_some, ↓vpost_ret, vfin_some, vfin2_some, at_hp, pickV_f, dcells, List.toList_toArray, List.getElem?_cons_zero, List.getElem?_cons_succ, List.length_nil, List.nil_append, Option.map_some, Option.bind_some, ↓reduceIte, reduceCtorEq, Nat.reduceLT, Nat.reduceBEq, Int.reduceLT, Int.reduceBEq, Nat.zero_add, Nat.add_zero, decide_false, and_self, or_true, Bool.not_true, Bool.not_false, Bool.or_true, Bool.and_self, b_beq_t, cond_true, Bool.cond_self, beq_self_eq_true, Try.vt3, Try.vfield28x0, Try.vfield33x0, Try.vfield33x1, dec_t, Ret, DV.nums, Try.f32, Gr.d, h1, h2, h3]
  by_cases h4 : g.pg < 64
  case neg =>
    have e : g.okB = false := by simp [Gr.okB, h4]
    rw [e]
    simp (config := { maxSteps := 2000000 }) (implicitDefEqProofs := false) (disch := first | omega | assumption | (simp only []; done) | fail) only [vop_move, vcallee_move, vop_assign, vcallee_assign, vop_pick, vcallee_pick, vop_box, vcallee_box, vop_load, vcallee_load, vop_binOp, vcallee_binOp, vop_fieldAddr, vcallee_fieldAddr, bin2_int, vpick_bool, strip_pv, strip_ptr, strip_agg, strip_tup, strip_opt, vstr_true, optV_none, optV_some, pickV_bool, ev_tmp, ev_const, ofConst_int, ofConst_bool, put_some, at_mk, fits_some, ↓look_cons, ↓vlook_t, ↓vlook_f, guard_none, guard_some, vgof_bool, vgof_skip, ↓vrun_nil, ↓code_region, ↓code_seq, ↓code_ret, ↓onNormal_normal, frz_pv, frzHeap_zero, res_one, vres_tmp, load_ptr, vld_one, blk_zero, box_eq, allOne_nil, allOne_cons, one_pv, faddr_ptr, vfap_some, bin_int, int_lss, int_leq, int_geq, enum_nil, enum_cons, evG_eq, ↓vrun_cons, ↓run1_some, ↓runG_true, ↓runG_false, ↓run2_none, ↓run3_some, ↓vpost_ret, vfin_some, vfin2_some, at_hp, pickV_f, dcells, List.toList_toArray, List.getElem?_cons_zero, List.getElem?_cons_succ, List.length_nil, List.nil_append, Option.map_some, Option.bind_some, ↓reduceIte, reduceCtorEq, Nat.reduceLT, Nat.reduceBEq, Int.reduceLT, Int.reduceBEq, Nat.zero_add, Nat.add_zero, decide_false, and_self, or_true, Bool.not_true, Bool.not_false, Bool.or_true, Bool.and_self, b_beq_t, cond_true, Bool.cond_self, beq_self_eq_true, Try.vt3, Try.vfield28x0, Try.vfield33x0, Try.vfield33x1, dec_t, Ret, DV.nums, Try.f32, Gr.d, h1, h2, h3, h4]
  by_cases h5 : 0 ≤ g.sl
  case neg =>
    have e : g.okB = false := by simp [Gr.okB, h5]
    rw [e]
    simp (config := { maxSteps := 2000000 }) (implicitDefEqProofs := false) (disch := first | omega | assumption | (simp only []; done) | fail) only [vop_move, vcallee_move, vop_assign, vcallee_assign, vop_pick, vcallee_pick, vop_box, vcallee_box, vop_load, vcallee_load, vop_binOp, vcallee_binOp, vop_fieldAddr, vcallee_fieldAddr, bin2_int, vpick_bool, strip_pv, strip_ptr, strip_agg, strip_tup, strip_opt, vstr_true, optV_none, optV_some, pickV_bool, ev_tmp, ev_const, ofConst_int, ofConst_bool, put_some, at_mk, fits_some, ↓look_cons, ↓vlook_t, ↓vlook_f, guard_none, guard_some, vgof_bool, vgof_skip, ↓vrun_nil, ↓code_region, ↓code_seq, ↓code_ret, ↓onNormal_normal, frz_pv, frzHeap_zero, res_one, vres_tmp, load_ptr, vld_one, blk_zero, box_eq, allOne_nil, allOne_cons, one_pv, faddr_ptr, vfap_some, bin_int, int_lss, int_leq, int_geq, enum_nil, enum_cons, evG_eq, ↓vrun_cons, ↓run1_some, ↓runG_true, ↓runG_false, ↓run2_none, ↓run3_some, ↓vpost_ret, vfin_some, vfin2_some, at_hp, pickV_f, dcells, List.toList_toArray, List.getElem?_cons_zero, List.getElem?_cons_succ, List.length_nil, List.nil_append, Option.map_some, Option.bind_some, ↓reduceIte, reduceCtorEq, Nat.reduceAdd, Nat.reduceLT, Nat.reduceBEq, Int.reduceLT, Int.reduceAdd, Int.reduceBEq, Nat.zero_add, Nat.add_zero, decide_false, and_self, or_true, Bool.not_true, Bool.not_false, Bool.or_true, Bool.and_self, b_beq_t, cond_true, Bool.cond_self, beq_self_eq_true, Try.vt3, Try.vfield28x0, Try.vfield28x1, Try.vfield33x0, Try.vfield33x1, dec_t, Ret, DV.nums, Try.f32, Gr.d, h1, h2, h3, h4, h5]
  by_cases h6 : g.sl < 16
  case neg =>
    have e : g.okB = false := by simp [Gr.okB, h6]
    rw [e]
    simp (config := { maxSteps := 2000000 }) (implicitDefEqProofs := false) (disch := first | omega | assumption | (simp only []; done) | fail) only [vop_move, vcallee_move, vop_assign, vcallee_assign, vop_pick, vcallee_pick, vop_box, vcallee_box, vop_load, vcallee_load, vop_binOp, vcallee_binOp, vop_fieldAddr, vcallee_fieldAddr, bin2_int, vpick_bool, strip_pv, strip_ptr, strip_agg, strip_tup, strip_opt, vstr_true, optV_none, optV_some, pickV_bool, ev_tmp, ev_const, ofConst_int, ofConst_bool, put_some, at_mk, fits_some, ↓look_cons, ↓vlook_t, ↓vlook_f, guard_none, guard_some, vgof_bool, vgof_skip, ↓vrun_nil, ↓code_region, ↓code_seq, ↓code_ret, ↓onNormal_normal, frz_pv, frzHeap_zero, res_one, vres_tmp, load_ptr, vld_one, blk_zero, box_eq, allOne_nil, allOne_cons, one_pv, faddr_ptr, vfap_some, bin_int, int_lss, int_leq, int_geq, enum_nil, enum_cons, evG_eq, ↓vrun_cons, ↓run1_some, ↓runG_true, ↓runG_false, ↓run2_none, ↓run3_some, ↓vpost_ret, vfin_some, vfin2_some, at_hp, pickV_f, dcells, List.toList_toArray, List.getElem?_cons_zero, List.getElem?_cons_succ, List.length_nil, List.nil_append, Option.map_some, Option.bind_some, ↓reduceIte, reduceCtorEq, Nat.reduceAdd, Nat.reduceLT, Nat.reduceBEq, Int.reduceLT, Int.reduceAdd, Int.reduceBEq, Nat.zero_add, Nat.add_zero, decide_false, and_self, or_true, Bool.not_true, Bool.not_false, Bool.or_true, Bool.and_self, b_beq_t, cond_true, Bool.cond_self, beq_self_eq_true, Try.vt3, Try.vfield28x0, Try.vfield28x1, Try.vfield33x0, Try.vfield33x1, dec_t, Ret, DV.nums, Try.f32, Gr.d, h1, h2, h3, h4, h5, h6]
  by_cases h7 : g.md = 1
  · have e : g.okB = true := by simp [Gr.okB, h1, h2, h3, h4, h5, h6, h7]
    rw [e]
    simp (config := { maxSteps := 2000000 }) (implicitDefEqProofs := false) (disch := first | omega | assumption | (simp only []; done) | fail) only [vop_move, vcallee_move, vop_assign, vcallee_assign, vop_pick, vcallee_pick, vop_box, vcallee_box, vop_load, vcallee_load, vop_binOp, vcallee_binOp, vop_fieldAddr, vcallee_fieldAddr, bin2_int, vpick_bool, strip_pv, strip_ptr, strip_agg, strip_tup, strip_opt, vstr_true, optV_none, optV_some, pickV_bool, ev_tmp, ev_const, ofConst_int, ofConst_bool, put_some, at_mk, fits_some, ↓look_cons, ↓vlook_t, ↓vlook_f, guard_none, guard_some, vgof_bool, vgof_opt, ↓vrun_nil, ↓code_region, ↓code_seq, ↓code_ret, ↓onNormal_normal, frz_pv, frzHeap_zero, res_one, vres_tmp, load_ptr, vld_one, blk_zero, box_eq, allOne_nil, allOne_cons, one_pv, faddr_ptr, vfap_some, bin_int, int_eql, int_lss, int_leq, int_geq, enum_nil, enum_cons, evG_eq, ↓vrun_cons, ↓run1_some, ↓runG_true, ↓runG_false, ↓run2_none, ↓run3_some, ↓vpost_ret, vfin_some, vfin2_some, at_hp, pickV_t, dcells, List.toList_toArray, List.getElem?_cons_zero, List.getElem?_cons_succ, List.length_nil, List.nil_append, Option.map_some, Option.bind_some, ↓reduceIte, reduceCtorEq, Nat.reduceAdd, Nat.reduceLT, Nat.reduceBEq, Int.reduceLT, Int.reduceAdd, Int.reduceBEq, Nat.zero_add, Nat.add_zero, and_self, and_false, or_true, Bool.not_true, Bool.or_true, Bool.and_false, Bool.and_self, b_beq_f, cond_true, beq_self_eq_true, Try.vt3, Try.vfield28x0, Try.vfield28x1, Try.vfield33x0, Try.vfield33x1, Try.vfield33x2, dec_t, Ret, DV.nums, Try.f32, Gr.d, h1, h2, h3, h4, h5, h6, h7]
  · by_cases h8 : g.md = 2
    · have e : g.okB = true := by simp [Gr.okB, h1, h2, h3, h4, h5, h6, h8]
      rw [e]
      simp (config := { maxSteps := 2000000 }) (implicitDefEqProofs := false) (disch := first | omega | assumption | (simp only []; done) | fail) only [vop_move, vcallee_move, vop_assign, vcallee_assign, vop_pick, vcallee_pick, vop_box, vcallee_box, vop_load, vcallee_load, vop_binOp, vcallee_binOp, vop_fieldAddr, vcallee_fieldAddr, bin2_int, vpick_bool, strip_pv, strip_ptr, strip_agg, strip_opt, vstr_true, optV_none, optV_some, pickV_bool, ev_tmp, ev_const, ofConst_int, ofConst_bool, put_some, at_mk, fits_some, ↓look_cons, ↓vlook_t, ↓vlook_f, guard_none, guard_some, vgof_bool, vgof_opt, ↓vrun_nil, ↓code_region, ↓code_seq, ↓code_ret, ↓onNormal_normal, frz_pv, frzHeap_zero, res_one, vres_tmp, load_ptr, vld_one, blk_zero, box_eq, allOne_nil, allOne_cons, one_pv, faddr_ptr, vfap_some, bin_int, int_eql, int_lss, int_leq, int_geq, enum_nil, enum_cons, evG_eq, ↓vrun_cons, ↓run1_some, ↓runG_true, ↓run2_none, ↓run3_some, ↓vpost_ret, vfin_some, vfin2_some, at_hp, dcells, List.toList_toArray, List.getElem?_cons_zero, List.getElem?_cons_succ, List.length_nil, List.nil_append, Option.map_some, Option.bind_some, ↓reduceIte, reduceCtorEq, Nat.reduceAdd, Nat.reduceLT, Nat.reduceBEq, Int.reduceLT, Int.reduceAdd, Int.reduceBEq, Nat.zero_add, Nat.add_zero, and_self, or_true, Bool.not_true, Bool.not_false, Bool.or_true, Bool.and_self, cond_true, Bool.cond_self, beq_self_eq_true, Try.vt3, Try.vfield28x0, Try.vfield28x1, Try.vfield33x0, Try.vfield33x1, Try.vfield33x2, dec_t, int_beq_f, Ret, DV.nums, Try.f32, Gr.d, h1, h2, h3, h4, h5, h6, h8]
    · have e : g.okB = false := by simp [Gr.okB, h7, h8]
      rw [e]
      simp (config := { maxSteps := 2000000 }) (implicitDefEqProofs := false) (disch := first | omega | assumption | (simp only []; done) | fail) only [vop_move, vcallee_move, vop_assign, vcallee_assign, vop_pick, vcallee_pick, vop_box, vcallee_box, vop_load, vcallee_load, vop_binOp, vcallee_binOp, vop_fieldAddr, vcallee_fieldAddr, bin2_int, vpick_bool, strip_pv, strip_ptr, strip_agg, strip_opt, vstr_true, optV_none, optV_some, pickV_bool, ev_tmp, ev_const, ofConst_int, ofConst_bool, put_some, at_mk, fits_some, ↓look_cons, ↓vlook_t, ↓vlook_f, guard_none, guard_some, vgof_bool, vgof_opt, ↓vrun_nil, ↓code_region, ↓code_seq, ↓code_ret, ↓onNormal_normal, frz_pv, frzHeap_zero, res_one, vres_tmp, load_ptr, vld_one, blk_zero, box_eq, allOne_nil, allOne_cons, one_pv, faddr_ptr, vfap_some, bin_int, int_eql, int_lss, int_leq, int_geq, enum_nil, enum_cons, evG_eq, ↓vrun_cons, ↓run1_some, ↓runG_true, ↓run2_none, ↓run3_some, ↓vpost_ret, vfin_some, vfin2_some, at_hp, dcells, List.toList_toArray, List.getElem?_cons_zero, List.getElem?_cons_succ, List.length_nil, List.nil_append, Option.map_some, Option.bind_some, ↓reduceIte, reduceCtorEq, Nat.reduceAdd, Nat.reduceLT, Nat.reduceBEq, Int.reduceLT, Int.reduceAdd, Int.reduceBEq, Nat.zero_add, Nat.add_zero, and_self, or_true, Bool.not_true, Bool.not_false, Bool.or_true, Bool.and_self, cond_true, cond_false, Bool.cond_self, beq_self_eq_true, Try.vt3, Try.vfield28x0, Try.vfield28x1, Try.vfield33x0, Try.vfield33x1, Try.vfield33x2, dec_t, int_beq_f, Ret, DV.nums, Try.f32, Gr.d, h1, h2, h3, h4, h5, h6]
end Go.Proofs.Ytjiaadkncpajnaa

namespace Go.Proofs.Ytjiaadkncpajnaa
open Go.V Go
set_option maxRecDepth 100000
set_option linter.unusedSimpArgs false

/-- Where a search by halves ends: how many stand before. -/
def lo {α : Type} (l : List α) (f : α → Bool) : Nat := (l.takeWhile f).length
/-- Those before come first. -/
def Fore {α : Type} (l : List α) (f : α → Bool) : Prop := ∀ i j : Nat, ∀ hi : i < l.length, ∀ hj : j < l.length, i < j → f l[j] = true → f l[i] = true
theorem lo_le {α : Type} (l : List α) (f : α → Bool) : lo l f ≤ l.length := (List.takeWhile_sublist _).length_le
theorem lo_eq {α : Type} (l : List α) (f : α → Bool) (i : Nat) (hi : i ≤ l.length) (h1 : ∀ k, ∀ hk : k < l.length, k < i → f l[k] = true) (h2 : ∀ hi : i < l.length, f l[i] = false) : lo l f = i := by
  unfold lo
  induction l generalizing i with
  | nil => simp at hi; subst hi; rfl
  | cons a r ih =>
    cases i with
    | zero =>
      have := h2 (by simp)
      simp only [List.getElem_cons_zero] at this
      rw [List.takeWhile_cons, this]; rfl
    | succ i =>
      have h0 := h1 0 (by simp) (by omega)
      simp only [List.getElem_cons_zero] at h0
      rw [List.takeWhile_cons, h0]
      simp only [if_true, List.length_cons]
      rw [ih i (by simpa using hi) (fun k hk hki => h1 (k + 1) (by simpa using hk) (by omega)) (fun hi => h2 (by simpa using hi))]
/-- How far a search by halves has come. -/
structure BS {α : Type} (l : List α) (f : α → Bool) where
  i : Nat
  j : Nat
  hij : i ≤ j
  hj : j ≤ l.length
  h1 : ∀ k, ∀ hk : k < l.length, k < i → f l[k] = true
  h2 : ∀ hj : j < l.length, f l[j] = false
def BS.start {α : Type} (l : List α) (f : α → Bool) : BS l f := ⟨0, l.length, Nat.zero_le _, Nat.le_refl _, fun k hk h => by omega, fun h => by omega⟩
def BS.up {α : Type} {l : List α} {f : α → Bool} (s : BS l f) (hf : Fore l f) (h : Nat) (h1 : s.i ≤ h) (h2 : h < s.j) (hx : f (l[h]'(Nat.lt_of_lt_of_le h2 s.hj)) = true) : BS l f :=
  ⟨h + 1, s.j, h2, s.hj, fun k hk hki => by
    rcases Nat.lt_or_ge k h with hlt | hge
    · exact hf k h hk (Nat.lt_of_lt_of_le h2 s.hj) hlt hx
    · obtain rfl : k = h := by omega
      exact hx, s.h2⟩
def BS.down {α : Type} {l : List α} {f : α → Bool} (s : BS l f) (h : Nat) (h1 : s.i ≤ h) (h2 : h < s.j) (hx : f (l[h]'(Nat.lt_of_lt_of_le h2 s.hj)) = false) : BS l f :=
  ⟨s.i, h, h1, Nat.le_of_lt (Nat.lt_of_lt_of_le h2 s.hj), s.h1, fun _ => hx⟩
theorem BS.fin {α : Type} {l : List α} {f : α → Bool} (s : BS l f) (h : ¬ s.i < s.j) : lo l f = s.i := by
  have e : s.i = s.j := by have := s.hij; omega
  exact lo_eq l f s.i (by have := s.hj; omega) s.h1 (fun hi => by
    have := s.h2 (e ▸ hi)
    simpa only [e] using this)
theorem half (i j : Nat) (h : j ≤ 1000000) (hij : i ≤ j) : IntKind.i64.wrap ((IntKind.u64.wrap ((i : Int) + j)).fdiv (2 ^ min 1 IntKind.u64.bits)) = ((i + j) / 2 : Nat) := by
  have e0 : ((2 : Int) ^ min 1 IntKind.u64.bits) = 2 := by decide
  rw [e0]
  have e1 : IntKind.u64.wrap ((i : Int) + j) = (i : Int) + j := by
    simp [IntKind.wrap, IntKind.signed, IntKind.bits]; omega
  rw [e1, Int.fdiv_eq_ediv_of_nonneg _ (by omega), IntKind.wrap_i64]
  omega

set_option maxHeartbeats 1000000 in
theorem bsearchFG_v (l : List Gr) (hl : l.length ≤ 1000000) (y : Gr) (g : FuncId) (cmp : Gr → Int) (hf : ∀ x ∈ l, VCalls Try.prog g [x.d, y.d] [] (Ret (.int .i64 (cmp x)))) (hF : Fore l (fun x => decide (cmp x < 0))) :
    VCalls Try.prog 69 [.pv (.sl (fz encG l)), y.d, .fn (.func g) [] []] [] (Ret (.tup [.int .i64 (lo l (fun x => decide (cmp x < 0))), .bool ((l[lo l (fun x => decide (cmp x < 0))]?.map fun x => cmp x == 0).getD false)])) := by
  refine vcalls_drop (fn := Try.f69) Try.func69 rfl (by kernel_rfl) (by simp [Try.f69]) ?_
  simp (config := { maxSteps := 2000000 }) (implicitDefEqProofs := false) (disch := first | omega | assumption | (simp only []; done) | fail) only [vop_move, vcallee_move, vop_assign, vcallee_assign, vop_box, vcallee_box, vop_builtin, vcallee_builtin, strip_pv, strip_agg, optV_none, ev_tmp, ev_const, ofConst_int, ofConst_bool, put_some, at_mk, fits_some, ↓look_cons, ↓vlook_t, ↓vlook_f, guard_none, ↓vrun_nil, ↓code_region, ↓code_seq, ↓code_block, ↓code_loop, ↓onNormal_normal, box_eq, allOne_nil, allOne_cons, one_pv, len_sl, vlk_sl, bi_len, enum_nil, enum_cons, evG_eq, ↓vrun_cons, ↓run1_some, ↓runG_true, ↓run2_none, ↓run3_some, at_hp, List.map_nil, dcells, List.toList_toArray, List.length_nil, List.map_cons, List.map_nil, List.nil_append, Option.map_some, ↓reduceIte, Nat.reduceAdd, Nat.reduceLT, Nat.reduceBEq, Int.reduceLT, Int.reduceAdd, Int.reduceBEq, Nat.zero_add, true_and, and_self, Bool.true_and, Bool.and_self, beq_self_eq_true, fz_len, Try.vkind24, dec_t, Try.f69, Gr.d]
  refine vloopW (fun s : BS l (fun x => decide (cmp x < 0)) => ⟨49, 0, [(10, .int .i64 s.j), (9, .int .i64 s.i), (8, .int .i64 l.length), (4, .ptr 0 0), (0, .pv (.sl (fz encG l))), (2, .fn (.func g) [] [])], [⟨33, true, [.int .i64 y.tx, .int .i64 y.pg, .int .i64 y.sl, .int .i64 y.md]⟩]⟩) (fun s => s.j - s.i) (BS.start l _) (.inl (by refine ⟨rfl, rfl, by simp, ?_, ?_, .inr ⟨?_, ?_⟩⟩ <;> (repeat' apply And.intro) <;> first | rfl | trivial | (intro _; first | rfl | apply cells_refs))) ?_
  intro s
  have hij := s.hij
  have hj := s.hj
  have hh := half s.i s.j (by omega) hij
  simp (config := { maxSteps := 2000000 }) (implicitDefEqProofs := false) (disch := first | omega | assumption | (simp only []; done) | fail) only [vop_move, vcallee_move, vop_binOp, vcallee_binOp, bin2_tmp, strip_pv, optV_none, ev_tmp, put_some, at_mk, fits_some, ↓look_cons, ↓vlook_t, ↓vlook_f, guard_none, ↓vrun_nil, ↓code_region, ↓code_seq, ↓onNormal_normal, bin_int, int_lss, evG_eq, ↓vrun_cons, ↓run1_some, ↓runG_true, ↓run2_none, ↓run3_some, ↓code_cond, ↓vtest_bool, at_hp, Option.map_some, Nat.reduceLT, Nat.reduceBEq, Int.reduceLT, Int.reduceBEq, true_and, Bool.true_and, beq_self_eq_true, dec_t]
  refine vbr_split (fun hc1 => ?_) (fun hc1 => ?_) <;> simp only [decide_eq_true_eq, decide_eq_false_iff_not, Bool.or_eq_true, Bool.and_eq_true, Bool.or_eq_false_iff, Bool.and_eq_false_imp, Bool.not_eq_true', Bool.not_eq_false', beq_iff_eq, beq_eq_false_iff_ne, bne_iff_ne, bne_eq_false_iff_eq, ne_eq] at hc1
  · have hlt : (s.i + s.j) / 2 < l.length := by omega
    have hg : (fz encG l)[(s.i + s.j) / 2]? = some [.lit (.int .i64 l[(s.i + s.j) / 2].tx), .lit (.int .i64 l[(s.i + s.j) / 2].pg), .lit (.int .i64 l[(s.i + s.j) / 2].sl), .lit (.int .i64 l[(s.i + s.j) / 2].md)] := fz_at encG l _ hlt
    have hm := hf l[(s.i + s.j) / 2] (List.getElem_mem hlt)
    simp (config := { maxSteps := 2000000 }) (implicitDefEqProofs := false) (disch := first | omega | assumption | (simp only []; done) | fail) only [vop_move, vcallee_move, vop_assign, vcallee_assign, vop_binOp, vcallee_binOp, vop_convert, vcallee_convert, conv_pv, bin2_tmp, bin2_int, strip_pv, optV_none, ev_tmp, ev_const, ofConst_int, put_some, at_mk, fits_some, ↓look_cons, ↓vlook_t, ↓vlook_f, guard_none, ↓vrun_nil, ↓code_skip, ↓code_region, ↓code_draw, ↓code_seq, ↓code_block, ↓onNormal_normal, bin_int, int_add, int_shr, conv_int, vci_int, evG_eq, ↓vrun_cons, ↓run1_some, ↓runG_true, ↓run2_none, ↓run3_some, at_hp, Option.map_some, Nat.reduceLT, Nat.reduceBEq, Int.reduceToNat, Int.reduceLT, Int.reduceBEq, true_and, Bool.true_and, beq_self_eq_true, Try.vkind3, Try.vkind78, wrap_i64_in, dec_t, hh]
    refine vdraw (by kernel_rfl) (by kernel_rfl) ?_
    simp (config := { maxSteps := 2000000 }) (implicitDefEqProofs := false) (disch := first | omega | assumption | (simp only [List.length_cons, List.length_nil, Nat.zero_add, Nat.reduceAdd]; done) | fail) only [vop_move, vcallee_move, okKind_move, foot_move, vop_load, vcallee_load, okKind_load, vop_indexAddr, vcallee_indexAddr, okKind_indexAddr, foot_indexAddr, foot_load, vcallee_value, vcal_fn, ptrNo_ptr, ptrNo_ip, strip_pv, strip_ptr, strip_ip, strip_agg, strip_fn, optV_none, ev_tmp, put_some, at_mk, fits_some, ↓look_cons, ↓vlook_t, ↓vlook_f, guard_none, load_ptr, load_ip, vld_agg, vldp_agg, blk_zero, iaddr_sl, vias_some, okc_nil, okc_other, evG_eq, ↓vdr_cons, ↓dr1_some, ↓drG_true, ↓dr2_none, ↓dr2_some, ↓dr3_some, at_hp, List.map_nil, List.length_cons, List.length_nil, List.map_cons, List.map_nil, List.cons_append, List.nil_append, List.append_nil, List.take_succ_cons, List.take_nil, List.drop_zero, Option.map_some, ↓reduceIte, Nat.reduceAdd, Nat.reduceLT, Nat.reduceBEq, Int.reduceLT, Int.reduceAdd, Int.reduceBEq, Int.toNat_natCast, Nat.zero_add, true_and, Bool.true_and, beq_self_eq_true, Nat.le_refl, Try.velem24, Try.vt33, dec_t, hg]
    refine vdc_call (hm) rfl rfl ?_
    simp (config := { maxSteps := 2000000 }) (implicitDefEqProofs := false) (disch := first | omega | assumption | (simp only []; done) | fail) only [vop_binOp, vcallee_binOp, okKind_binOp, foot_binOp, bin2_int, strip_pv, optV_none, ev_tmp, ev_const, ofConst_int, put_some, at_mk, fits_some, ↓look_cons, ↓vlook_t, guard_none, ↓vdr_nil, ↓onNormal_normal, bin_int, int_lss, okc_nil, okc_none, okc_other, evG_eq, ↓vdr_cons, ↓dr1_some, ↓drG_true, ↓dr2_none, ↓dr3_some, ↓drK_eq, ↓code_cond, ↓vtest_bool, at_hp, List.cons_append, List.nil_append, Option.map_some, Nat.reduceAdd, Nat.reduceLT, Int.reduceLT, Int.reduceAdd, Nat.zero_add, true_and, Bool.true_and, beq_self_eq_true, dec_t]
    refine vbr_split (fun hx => ?_) (fun hx => ?_) <;> simp only [decide_eq_true_eq, decide_eq_false_iff_not, Bool.or_eq_true, Bool.and_eq_true, Bool.or_eq_false_iff, Bool.and_eq_false_imp, Bool.not_eq_true', Bool.not_eq_false', beq_iff_eq, beq_eq_false_iff_ne, bne_iff_ne, bne_eq_false_iff_eq, ne_eq] at hx
    · simp (config := { maxSteps := 2000000 }) (implicitDefEqProofs := false) (disch := first | omega | assumption | (simp only []; done) | fail) only [vop_move, vcallee_move, vop_assign, vcallee_assign, vop_binOp, vcallee_binOp, bin2_int, strip_pv, optV_none, ev_tmp, ev_const, ofConst_int, put_some, at_mk, fits_some, ↓look_cons, ↓vlook_t, ↓vlook_f, guard_none, ↓vrun_nil, ↓code_region, ↓onNormal_normal, ↓onBlock_normal, bin_int, int_add, evG_eq, ↓vrun_cons, ↓run1_some, ↓runG_true, ↓run2_none, ↓run3_some, at_hp, Option.map_some, Nat.reduceLT, Nat.reduceBEq, Int.reduceLT, Int.reduceBEq, true_and, Bool.true_and, beq_self_eq_true, wrap_i64_in, dec_t]
      exact ⟨s.up hF _ (by omega) (by omega) (decide_eq_true hx), by show s.j - ((s.i + s.j) / 2 + 1) < s.j - s.i; omega, .inl (by refine ⟨rfl, rfl, by simp, ?_, ?_, .inr ⟨?_, ?_⟩⟩ <;> (repeat' apply And.intro) <;> first | rfl | trivial | (intro _; first | rfl | apply cells_refs))⟩
    · simp (config := { maxSteps := 2000000 }) (implicitDefEqProofs := false) (disch := first | omega | assumption | (simp only []; done) | fail) only [vop_move, vcallee_move, vop_assign, vcallee_assign, strip_pv, optV_none, ev_tmp, put_some, at_mk, fits_some, ↓look_cons, ↓vlook_t, ↓vlook_f, guard_none, ↓vrun_nil, ↓code_region, ↓onNormal_normal, ↓onBlock_normal, evG_eq, ↓vrun_cons, ↓run1_some, ↓runG_true, ↓run2_none, ↓run3_some, at_hp, Nat.reduceLT, Nat.reduceBEq, Int.reduceLT, Int.reduceBEq, true_and, Bool.true_and, beq_self_eq_true, dec_t, dec_f]
      exact ⟨s.down ((s.i + s.j) / 2) (by omega) (by omega) (decide_eq_false hx), by show (s.i + s.j) / 2 - s.i < s.j - s.i; omega, .inl (by refine ⟨rfl, rfl, by simp, ?_, ?_, .inr ⟨?_, ?_⟩⟩ <;> (repeat' apply And.intro) <;> first | rfl | trivial | (intro _; first | rfl | apply cells_refs))⟩
  · have hlo := s.fin (by omega)
    rw [hlo]
    by_cases hin : s.i < l.length
    · have hg : (fz encG l)[s.i]? = some [.lit (.int .i64 l[s.i].tx), .lit (.int .i64 l[s.i].pg), .lit (.int .i64 l[s.i].sl), .lit (.int .i64 l[s.i].md)] := fz_at encG l _ hin
      have hm := hf l[s.i] (List.getElem_mem hin)
      have hin' : (s.i : Int) < l.length := by omega
      have e : (l[s.i]?.map fun x => cmp x == 0).getD false = (cmp l[s.i] == 0) := by rw [List.getElem?_eq_getElem hin]; rfl
      rw [e]
      simp (config := { maxSteps := 2000000 }) (implicitDefEqProofs := false) (disch := first | omega | assumption) only [↓code_draw, ↓code_seq, ↓code_exit, ↓onNormal_normal, ↓onNormal_exit, ↓onBlock_exit, ↓reduceIte, dec_f]
      refine vdraw (by kernel_rfl) (by kernel_rfl) ?_
      simp (config := { maxSteps := 2000000 }) (implicitDefEqProofs := false) (disch := first | omega | assumption | (simp only [List.length_cons, List.length_nil, Nat.zero_add, Nat.reduceAdd]; done) | fail) only [vop_move, vcallee_move, okKind_move, foot_move, vop_load, vcallee_load, okKind_load, vop_binOp, vcallee_binOp, okKind_binOp, foot_binOp, vop_indexAddr, vcallee_indexAddr, okKind_indexAddr, foot_indexAddr, foot_load, vcallee_value, vcal_fn, ptrNo_ptr, ptrNo_ip, bin2_tmp, strip_pv, strip_ptr, strip_fn, strip_opt, vstr_true, optV_none, optV_some, ev_tmp, put_some, at_mk, fits_some, ↓look_cons, ↓vlook_t, ↓vlook_f, guard_none, guard_some, vgof_bool, load_ptr, load_ip, vld_agg, vldp_agg, blk_zero, iaddr_sl, vias_some, bin_int, int_lss, okc_nil, okc_other, evG_eq, ↓vdr_cons, ↓dr1_some, ↓drG_true, ↓dr2_none, ↓dr2_some, ↓dr3_some, at_hp, List.map_nil, List.getElem?_cons_zero, List.getElem?_cons_succ, List.length_cons, List.length_nil, List.map_cons, List.map_nil, List.cons_append, List.nil_append, List.append_nil, List.take_succ_cons, List.take_nil, List.drop_zero, Option.map_some, Option.bind_some, ↓reduceIte, Nat.reduceAdd, Nat.reduceLT, Nat.reduceBEq, Int.reduceLT, Int.reduceAdd, Int.reduceBEq, Int.toNat_natCast, Nat.zero_add, true_and, or_true, Bool.not_true, Bool.or_true, Bool.true_and, beq_self_eq_true, Nat.le_refl, Try.velem24, Try.vt33, dec_t, hin', hg]
      refine vdc_call (hm) rfl rfl ?_
      simp (config := { maxSteps := 2000000 }) (implicitDefEqProofs := false) (disch := first | omega | assumption | (simp only []; done) | fail) only [vop_assign, vcallee_assign, okKind_assign, foot_assign, vop_pick, vcallee_pick, okKind_pick, foot_pick, vop_binOp, vcallee_binOp, okKind_binOp, foot_binOp, bin2_int, vpick_bool, strip_pv, strip_opt, vstr_true, optV_none, optV_some, pickV_bool, ev_tmp, ev_const, ofConst_int, ofConst_bool, put_some, at_mk, fits_some, ↓look_cons, ↓vlook_t, ↓vlook_f, guard_none, guard_some, vgof_bool, ↓vdr_nil, ↓code_ret, ↓onNormal_normal, frz_tup, frzT_pv, allSome_nil, allSome_cons, frzHeap_zero, res_two, vres_tmp, bin_int, int_eql, okc_nil, okc_none, okc_other, evG_eq, ↓vdr_cons, ↓dr1_some, ↓drG_true, ↓dr2_none, ↓dr3_some, ↓drK_eq, ↓vpost_ret, vfin_some, vfin2_some, at_hp, List.map_nil, List.getElem?_cons_zero, List.getElem?_cons_succ, List.map_cons, List.map_nil, List.cons_append, List.nil_append, Option.map_some, Option.bind_some, Nat.reduceAdd, Nat.reduceLT, Nat.reduceBEq, Int.reduceLT, Int.reduceAdd, Int.reduceBEq, Nat.zero_add, and_self, or_true, Bool.not_true, Bool.or_true, Bool.and_self, cond_true, beq_self_eq_true, DV.wk.go, dec_t, Ret, DV.nums, DV.nums.go]
    · have hin' : ¬ (s.i : Int) < l.length := by omega
      have e : (l[s.i]?.map fun x => cmp x == 0).getD false = false := by rw [List.getElem?_eq_none (by omega)]; rfl
      have hg : (fz encG l)[s.i]? = none := by rw [List.getElem?_eq_none_iff, fz_len]; omega
      rw [e]
      simp (config := { maxSteps := 2000000 }) (implicitDefEqProofs := false) (disch := first | omega | assumption) only [↓code_draw, ↓code_seq, ↓code_exit, ↓onNormal_normal, ↓onNormal_exit, ↓onBlock_exit, ↓reduceIte, dec_f]
      refine vdraw (by kernel_rfl) (by kernel_rfl) ?_
      simp (config := { maxSteps := 2000000 }) (implicitDefEqProofs := false) (disch := first | omega | assumption | (simp only []; done) | fail) only [vop_move, vcallee_move, okKind_move, foot_move, vop_assign, vcallee_assign, okKind_assign, foot_assign, vop_pick, vcallee_pick, okKind_pick, foot_pick, vop_binOp, vcallee_binOp, okKind_binOp, foot_binOp, bin2_tmp, vpick_bool, strip_pv, strip_tup, optV_none, ev_tmp, ev_const, ofConst_bool, put_some, at_mk, fits_some, ↓look_cons, ↓vlook_t, ↓vlook_f, guard_none, guard_some, vgof_bool, ↓vdr_nil, ↓code_ret, ↓onNormal_normal, frz_tup, frzT_pv, allSome_nil, allSome_cons, frzHeap_zero, res_two, vres_tmp, bin_int, int_lss, okc_nil, okc_other, evG_eq, ↓vdr_cons, ↓dr1_some, ↓drG_true, ↓drG_false, ↓dr2_none, ↓dr3_some, ↓vpost_ret, vfin_some, vfin2_some, at_hp, pickV_f, List.map_nil, List.getElem?_cons_zero, List.getElem?_cons_succ, List.map_cons, List.map_nil, List.cons_append, List.nil_append, Option.map_some, Option.bind_some, Nat.reduceAdd, Nat.reduceLT, Nat.reduceBEq, Int.reduceLT, Int.reduceAdd, Int.reduceBEq, Nat.zero_add, decide_false, and_self, Bool.not_false, Bool.and_self, b_beq_t, beq_self_eq_true, DV.wk.go, dec_t, Ret, DV.nums, DV.nums.go, hin']
      try simp only []
end Go.Proofs.Ytjiaadkncpajnaa

namespace Go.Proofs.Ytjiaadkncpajnaa
open Go.V Go
set_option maxRecDepth 100000
set_option linter.unusedSimpArgs false

theorem cmpI_lt (x y : Int) : cmpI x y < 0 ↔ x < y := by
  unfold cmpI
  repeat' split
  all_goals omega
theorem cmpI_eq (x y : Int) : cmpI x y = 0 ↔ x = y := by
  unfold cmpI
  repeat' split
  all_goals omega
theorem ordG_lt (a b : Gr) : ordG a b < 0 ↔ a.pg < b.pg ∨ (a.pg = b.pg ∧ (a.sl < b.sl ∨ (a.sl = b.sl ∧ a.tx < b.tx))) := by
  unfold ordG
  have h1 := cmpI_lt a.pg b.pg
  have h2 := cmpI_eq a.pg b.pg
  have h3 := cmpI_lt a.sl b.sl
  have h4 := cmpI_eq a.sl b.sl
  have h5 := cmpI_lt a.tx b.tx
  repeat' split
  all_goals (simp only [ne_eq, Decidable.not_not] at *; omega)
theorem ordG_eq (a b : Gr) : ordG a b = 0 ↔ a.pg = b.pg ∧ a.sl = b.sl ∧ a.tx = b.tx := by
  unfold ordG
  have h2 := cmpI_eq a.pg b.pg
  have h4 := cmpI_eq a.sl b.sl
  have h6 := cmpI_eq a.tx b.tx
  repeat' split
  all_goals (simp only [ne_eq, Decidable.not_not] at *; omega)
/-- Which grant has a key. -/
def keyB (tx pg sl : Int) (g : Gr) : Bool := decide (g.tx = tx) && (decide (g.pg = pg) && decide (g.sl = sl))
def modeS (l : List Gr) (tx pg sl : Int) : Int := match l.find? (keyB tx pg sl) with | some g => g.md | none => 0
def sortedG (l : List Gr) : Prop := l.Pairwise fun a b => ordG a b < 0
theorem keyB_eq {tx pg sl : Int} {g : Gr} : keyB tx pg sl g = true ↔ g.tx = tx ∧ g.pg = pg ∧ g.sl = sl := by simp [keyB]
theorem keyB_ord (g : Gr) (tx pg sl m : Int) : (ordG g ⟨tx, pg, sl, m⟩ == 0) = keyB tx pg sl g := by
  rw [Bool.eq_iff_iff, beq_iff_eq, ordG_eq, keyB_eq]
  simp only; omega
/-- How many stand before a key. -/
def floG (l : List Gr) (tx pg sl : Int) : Nat := lo l fun x => decide (ordG x ⟨tx, pg, sl, 0⟩ < 0)
def ffound (l : List Gr) (tx pg sl : Int) : Bool := (l[floG l tx pg sl]?.map fun x => ordG x ⟨tx, pg, sl, 0⟩ == 0).getD false
theorem ordG_trans {a b c : Gr} (h1 : ordG a b < 0) (h2 : ordG b c < 0) : ordG a c < 0 := by rw [ordG_lt] at *; omega
theorem fore_G (l : List Gr) (h : sortedG l) (y : Gr) : Fore l (fun x => decide (ordG x y < 0)) := fun i j hi hj hij hx => by
  have := List.pairwise_iff_getElem.mp h i j hi hj hij
  rw [decide_eq_true_eq] at hx ⊢
  exact ordG_trans this hx
theorem lo_before {α : Type} (l : List α) (f : α → Bool) (k : Nat) (hk : k < lo l f) (hl : k < l.length) : f l[k] = true := by
  induction l generalizing k with
  | nil => simp at hl
  | cons a r ih =>
    cases ha : f a with
    | false =>
      have e : lo (a :: r) f = 0 := by simp [lo, List.takeWhile_cons, ha]
      omega
    | true =>
      have e : lo (a :: r) f = lo r f + 1 := by simp [lo, List.takeWhile_cons, ha]
      cases k with
      | zero => exact ha
      | succ k => exact ih k (by omega) (by simpa using hl)
theorem lo_at {α : Type} (l : List α) (f : α → Bool) (h : lo l f < l.length) : f l[lo l f] = false := by
  induction l with
  | nil => simp at h
  | cons a r ih =>
    cases ha : f a with
    | false =>
      have e : lo (a :: r) f = 0 := by simp [lo, List.takeWhile_cons, ha]
      simp only [e, List.getElem_cons_zero]; exact ha
    | true =>
      have e : lo (a :: r) f = lo r f + 1 := by simp [lo, List.takeWhile_cons, ha]
      have h' : lo r f < r.length := by rw [e] at h; simpa using h
      have := ih h'
      simp only [e, List.getElem_cons_succ]; exact this
theorem find_G (l : List Gr) (h : sortedG l) (tx pg sl : Int) : l.find? (keyB tx pg sl) = if ffound l tx pg sl = true then l[floG l tx pg sl]? else none := by
  by_cases hf : ffound l tx pg sl = true
  · rw [if_pos hf]
    unfold ffound at hf
    cases hx : l[floG l tx pg sl]? with
    | none => rw [hx] at hf; simp at hf
    | some p =>
      rw [hx] at hf
      obtain ⟨hlt, he⟩ := List.getElem?_eq_some_iff.1 hx
      have hp : keyB tx pg sl p = true := by rw [← keyB_ord p tx pg sl 0]; simpa using hf
      rw [List.find?_eq_some_iff_getElem]
      refine ⟨hp, floG l tx pg sl, hlt, he, fun j hj => ?_⟩
      have := lo_before l _ j hj (by omega)
      rw [decide_eq_true_eq] at this
      rw [← keyB_ord _ tx pg sl 0]
      simp; omega
  · rw [if_neg hf, List.find?_eq_none]
    intro p hp
    obtain ⟨k, hk, rfl⟩ := List.getElem_of_mem hp
    intro e
    apply hf
    rw [← keyB_ord _ tx pg sl 0, beq_iff_eq] at e
    have hlo : floG l tx pg sl = k := by
      refine lo_eq l _ k (by omega) (fun j hj hjk => ?_) (fun hk => ?_)
      · have := List.pairwise_iff_getElem.mp h j k hj hk hjk
        rw [decide_eq_true_eq]
        rw [ordG_eq] at e
        rw [ordG_lt] at this ⊢
        simp only at *; omega
      · rw [decide_eq_false_iff_not]; omega
    rw [ffound, hlo, List.getElem?_eq_getElem hk]
    simp [e]
theorem find_v (l : List Gr) (hl : l.length ≤ 1000000) (hs : sortedG l) (tx pg sl : Int) : VCalls Try.prog 58 [.pv (.sl (fz encG l)), .int .i64 tx, .agg [.int .i64 pg, .int .i64 sl]] [] (Ret (.tup [.int .i64 (floG l tx pg sl), .bool (ffound l tx pg sl)])) := by
  refine vcalls_drop (fn := Try.f58) Try.func58 rfl (by kernel_rfl) (by simp [Try.f58]) ?_
  have hb := bsearchFG_v l hl ⟨tx, pg, sl, 0⟩ 40 (fun x => ordG x ⟨tx, pg, sl, 0⟩) (fun x _ => order_v x _) (fore_G l hs _)
  simp (config := { maxSteps := 2000000 }) (implicitDefEqProofs := false) (disch := first | omega | assumption | (simp only []; done) | fail) only [vop_move, vcallee_move, vop_assign, vcallee_assign, vop_box, vcallee_box, vop_build, vcallee_build, vop_load, vcallee_load, vcallee_value, vcal_fn, strip_pv, strip_ptr, strip_agg, strip_fn, optV_none, ev_tmp, ev_const, ev_func, ofConst_int, ofConst_bool, put_some, at_mk, fits_some, ↓look_cons, ↓vlook_t, ↓vlook_f, guard_none, ↓vrun_nil, ↓code_region, ↓code_seq, ↓onNormal_normal, load_ptr, vld_agg, blk_zero, box_eq, allOne_nil, allOne_cons, one_pv, parts_nil, parts_cons, enum_nil, enum_cons, evG_eq, ↓vrun_cons, ↓run1_some, ↓runG_true, ↓run2_none, ↓run2_some, ↓run3_some, at_hp, List.map_nil, dcells, vbuild, vfill, V.splice, List.toList_toArray, List.getElem?_cons_zero, List.getElem?_cons_succ, List.length_cons, List.length_nil, List.map_cons, List.map_nil, List.cons_append, List.nil_append, List.append_nil, List.take_succ_cons, List.take_zero, List.take_nil, List.drop_succ_cons, List.drop_zero, Option.map_some, ↓reduceIte, Nat.reduceAdd, Nat.reduceLT, Nat.reduceLeDiff, Nat.reduceBEq, Int.reduceLT, Int.reduceAdd, Int.reduceBEq, Nat.zero_add, true_and, and_self, Bool.true_and, Bool.and_self, beq_self_eq_true, Nat.le_refl, Try.vt28, Try.vplaces33, Try.vzero33, dec_t, Try.f58]
  refine vc_pure hb rfl ?_
  simp (config := { maxSteps := 2000000 }) (implicitDefEqProofs := false) (disch := first | omega | assumption | (simp only []; done) | fail) only [vop_assign, vcallee_assign, vop_extract, vcallee_extract, strip_pv, strip_tup, optV_none, ev_tmp, put_some, at_mk, fits_some, ↓look_cons, ↓vlook_t, ↓vlook_f, guard_none, ↓vrun_nil, ↓code_ret, ↓onNormal_normal, frz_tup, frzT_pv, allSome_nil, allSome_cons, frzHeap_zero, res_two, vres_tmp, ext_tup, evG_eq, ↓vrun_cons, ↓run1_some, ↓runG_true, ↓run2_none, ↓run3_some, ↓runK_eq, ↓vpost_ret, vfin_some, vfin2_some, at_hp, List.map_nil, List.getElem?_cons_zero, List.getElem?_cons_succ, List.map_cons, List.map_nil, Option.map_some, Nat.reduceLT, Nat.reduceBEq, Int.reduceLT, Int.reduceBEq, true_and, and_self, Bool.true_and, Bool.and_self, beq_self_eq_true, DV.wk.go, dec_t, Ret, DV.nums, DV.nums.go]
  rfl
theorem mode_v (t : Lk) (hl : t.sm) (hs : sortedG t.held) (tx pg sl : Int) : VCalls Try.prog 33 [t.d, .int .i64 tx, .agg [.int .i64 pg, .int .i64 sl]] [] (Ret (.int .i64 (modeS t.held tx pg sl))) := by
  refine vcalls_drop (fn := Try.f33) Try.func33 rfl (by kernel_rfl) (by simp [Try.f33]) ?_
  have hf := find_v t.held (by have := hl.1; omega) hs tx pg sl
  have hg := find_G t.held hs tx pg sl
  simp (config := { maxSteps := 2000000 }) (implicitDefEqProofs := false) (disch := first | omega | assumption | (simp only []; done) | fail) only [vop_move, vcallee_move, vop_assign, vcallee_assign, vop_box, vcallee_box, vop_load, vcallee_load, vop_fieldAddr, vcallee_fieldAddr, vcallee_value, vcal_fn, strip_pv, strip_ptr, strip_agg, strip_fn, optV_none, ev_tmp, ev_const, ev_func, ofConst_int, put_some, at_mk, fits_some, ↓look_cons, ↓vlook_t, ↓vlook_f, guard_none, ↓vrun_nil, ↓code_region, ↓code_seq, ↓onNormal_normal, load_ptr, vld_one, vld_agg, blk_zero, blk_succ, box_eq, allOne_nil, allOne_cons, one_pv, faddr_ptr, vfap_some, enum_nil, enum_cons, evG_eq, ↓vrun_cons, ↓run1_some, ↓runG_true, ↓run2_none, ↓run2_some, ↓run3_some, at_hp, List.map_nil, dcells, List.toList_toArray, List.getElem?_cons_zero, List.length_cons, List.length_nil, List.map_cons, List.map_nil, List.cons_append, List.nil_append, List.append_nil, List.take_succ_cons, List.take_nil, List.drop_zero, Option.map_some, ↓reduceIte, reduceCtorEq, Nat.reduceAdd, Nat.reduceLT, Nat.reduceBEq, Int.reduceLT, Int.reduceAdd, Int.reduceBEq, Nat.zero_add, Nat.add_zero, true_and, and_self, Bool.true_and, Bool.and_self, beq_self_eq_true, Nat.le_refl, Try.vt24, Try.vfield26x0, Try.vt28, dec_t, Try.f33, Lk.d]
  refine vc_pure hf rfl ?_
  unfold modeS
  rw [hg]
  by_cases hb : ffound t.held tx pg sl = true
  · have hlt : floG t.held tx pg sl < t.held.length := by
      unfold ffound at hb
      cases hx : t.held[floG t.held tx pg sl]? with
      | none => rw [hx] at hb; simp at hb
      | some p => exact (List.getElem?_eq_some_iff.1 hx).1
    have hz : (fz encG t.held)[floG t.held tx pg sl]? = some [.lit (.int .i64 t.held[floG t.held tx pg sl].tx), .lit (.int .i64 t.held[floG t.held tx pg sl].pg), .lit (.int .i64 t.held[floG t.held tx pg sl].sl), .lit (.int .i64 t.held[floG t.held tx pg sl].md)] := fz_at encG _ _ hlt
    rw [if_pos hb, List.getElem?_eq_getElem hlt]
    simp (config := { maxSteps := 2000000 }) (implicitDefEqProofs := false) (disch := first | omega | assumption | (simp only [List.length_cons, List.length_nil, Nat.zero_add, Nat.reduceAdd]; done) | fail) only [vop_move, vcallee_move, vop_assign, vcallee_assign, vop_load, vcallee_load, vop_fieldAddr, vcallee_fieldAddr, vop_indexAddr, vcallee_indexAddr, vop_extract, vcallee_extract, strip_pv, strip_ptr, strip_ip, strip_tup, optV_none, ev_tmp, put_some, at_mk, fits_some, ↓look_cons, ↓vlook_t, ↓vlook_f, guard_none, ↓vrun_nil, ↓code_region, ↓code_seq, ↓code_ret, ↓onNormal_normal, ↓onNormal_ret, frz_pv, frzHeap_zero, res_one, vres_tmp, load_ptr, load_ip, vld_one, vldp_one, blk_zero, faddr_ptr, vfap_some, faddr_ip, vfai_some, iaddr_sl, vias_some, ext_tup, evG_eq, ↓vrun_cons, ↓run1_some, ↓runG_true, ↓run2_none, ↓run3_some, ↓runK_eq, ↓code_cond, ↓vtest_bool, ↓vbr_true, ↓vpost_ret, vfin_some, vfin2_some, at_hp, List.getElem?_cons_zero, List.getElem?_cons_succ, List.drop_succ_cons, List.drop_zero, Option.map_some, ↓reduceIte, reduceCtorEq, Nat.reduceLT, Nat.reduceBEq, Int.reduceLT, Int.reduceBEq, Int.toNat_natCast, Nat.add_zero, and_self, Bool.and_self, beq_self_eq_true, Try.vt3, Try.vt24, Try.velem24, Try.vfield26x0, Try.vfield33x2, dec_t, Ret, DV.nums, hb, hz]
  · have hb' : ffound t.held tx pg sl = false := by simpa using hb
    rw [if_neg hb]
    simp (config := { maxSteps := 2000000 }) (implicitDefEqProofs := false) (disch := first | omega | assumption | (simp only []; done) | fail) only [vop_move, vcallee_move, vop_assign, vcallee_assign, vop_extract, vcallee_extract, strip_pv, strip_tup, optV_none, ev_tmp, ev_const, ofConst_int, put_some, at_mk, fits_some, ↓look_cons, ↓vlook_t, ↓vlook_f, guard_none, ↓vrun_nil, ↓code_skip, ↓code_region, ↓code_seq, ↓code_ret, ↓onNormal_normal, frz_pv, frzHeap_zero, res_one, vres_tmp, ext_tup, evG_eq, ↓vrun_cons, ↓run1_some, ↓runG_true, ↓run2_none, ↓run3_some, ↓runK_eq, ↓code_cond, ↓vtest_bool, ↓vbr_false, ↓vpost_ret, vfin_some, vfin2_some, at_hp, List.getElem?_cons_zero, List.getElem?_cons_succ, Option.map_some, Nat.reduceLT, Nat.reduceBEq, Int.reduceLT, Int.reduceBEq, and_self, Bool.and_self, beq_self_eq_true, dec_t, Ret, DV.nums, hb']
end Go.Proofs.Ytjiaadkncpajnaa

namespace Go.Proofs.Ytjiaadkncpajnaa
open Go.V Go
set_option maxRecDepth 100000
set_option linter.unusedSimpArgs false

def Lk.chkH (l : List Gr) (i : Nat) : Bool := (l.getD i Gr0).okB && (decide (i = 0) || (decide (ordG (l.getD (i - 1) Gr0) (l.getD i Gr0) < 0) && !confB (l.getD (i - 1) Gr0) (l.getD i Gr0)))
def Lk.chkW (t : Lk) (i : Nat) : Bool := (t.wait.getD i Gr0).okB && decide (modeS t.held (t.wait.getD i Gr0).tx (t.wait.getD i Gr0).pg (t.wait.getD i Gr0).sl < (t.wait.getD i Gr0).md) && !((t.wait.take i).any fun x => decide (x.tx = (t.wait.getD i Gr0).tx))
def Lk.okB (t : Lk) : Bool := decide (t.held.length + t.wait.length ≤ 1024) && (List.range t.held.length).all (Lk.chkH t.held) && (List.range t.wait.length).all t.chkW

/-- Those so far are right. -/
structure Okay (n : Nat) (c : Nat → Bool) where
  i : Nat
  hi : i ≤ n
  ok : ∀ k, k < i → c k = true
def Okay.start (n : Nat) (c : Nat → Bool) : Okay n c := ⟨0, Nat.zero_le _, fun k h => by omega⟩
def Okay.next {n : Nat} {c : Nat → Bool} (s : Okay n c) (h : s.i < n) (hc : c s.i = true) : Okay n c := ⟨s.i + 1, h, fun k hk => by
  rcases Nat.lt_or_ge k s.i with hlt | hge
  · exact s.ok k hlt
  · obtain rfl : k = s.i := by omega
    exact hc⟩
theorem Okay.all {n : Nat} {c : Nat → Bool} (s : Okay n c) (h : ¬ s.i < n) : (List.range n).all c = true := by
  rw [List.all_eq_true]
  intro k hk
  rw [List.mem_range] at hk
  exact s.ok k (by omega)
theorem all_not {n : Nat} {c : Nat → Bool} {i : Nat} (h : i < n) (hc : c i = false) : (List.range n).all c = false := by
  rw [List.all_eq_false]
  exact ⟨i, by rwa [List.mem_range], by rw [hc]; simp⟩
theorem getD_eq {α : Type} (l : List α) (i : Nat) (h : i < l.length) (d : α) : l.getD i d = l[i] := by rw [List.getD_eq_getElem?_getD, List.getElem?_eq_getElem h]; rfl
theorem sorted_of (l : List Gr) (h : (List.range l.length).all (Lk.chkH l) = true) : sortedG l := by
  rw [List.all_eq_true] at h
  rw [sortedG, List.pairwise_iff_getElem]
  intro i j hi hj hij
  induction j with
  | zero => omega
  | succ j ih =>
    have h1 := h (j + 1) (by rwa [List.mem_range])
    simp only [Lk.chkH, Bool.and_eq_true, Bool.or_eq_true, decide_eq_true_eq] at h1
    rw [getD_eq l (j + 1) hj, getD_eq l (j + 1 - 1) (by omega)] at h1
    have h2 : ordG l[j] l[j + 1] < 0 := by
      rcases h1.2 with h3 | h3
      · omega
      · exact h3.1
    rcases Nat.lt_or_ge i j with hlt | hge
    · exact ordG_trans (ih (by omega) hlt) h2
    · obtain rfl : i = j := by omega
      exact h2
theorem fzG_at (l : List Gr) (i : Nat) (h : i < l.length) : (fz encG l)[i]? = some [.lit (.int .i64 l[i].tx), .lit (.int .i64 l[i].pg), .lit (.int .i64 l[i].sl), .lit (.int .i64 l[i].md)] := fz_at encG l i h
theorem vias_neg (T : Option (Option Nat × TypeId × Nat)) (x : Option (List PV)) : vias T x (-1) = none := by
  match T, x with
  | none, _ => rfl
  | some (none, _, _), none => rfl
  | some (none, _, _), some _ => rfl
  | some (some _, _, _), _ => rfl
theorem valid1c_v (g : Gr) (x : Gr) : VCalls Try.prog 43 [x.d, .ip [.lit (.int .i64 g.tx), .lit (.int .i64 g.pg), .lit (.int .i64 g.sl), .lit (.int .i64 g.md)]] [] (Ret (.bool (decide (x.tx = g.tx)))) := by
  refine vcalls_drop (fn := Try.f43) Try.func43 rfl (by kernel_rfl) (by simp [Try.f43]) ?_
  by_cases h : x.tx = g.tx <;> simp (config := { maxSteps := 2000000 }) (implicitDefEqProofs := false) (disch := first | omega | assumption | (simp only []; done) | fail) only [vop_assign, vcallee_assign, vop_box, vcallee_box, vop_load, vcallee_load, vop_binOp, vcallee_binOp, vop_fieldAddr, vcallee_fieldAddr, bin2_tmp, strip_pv, strip_ptr, strip_ip, strip_agg, optV_none, ev_tmp, ev_const, ofConst_bool, put_some, at_mk, fits_some, ↓look_cons, ↓vlook_t, ↓vlook_f, guard_none, ↓vrun_nil, ↓code_region, ↓code_seq, ↓code_ret, ↓onNormal_normal, frz_pv, frzHeap_zero, res_one, vres_tmp, load_ptr, load_ip, vld_one, vldp_one, blk_zero, box_eq, allOne_nil, allOne_cons, one_pv, faddr_ptr, vfap_some, faddr_ip, vfai_some, bin_int, int_eql, enum_nil, enum_cons, evG_eq, ↓vrun_cons, ↓run1_some, ↓runG_true, ↓run2_none, ↓run3_some, ↓vpost_ret, vfin_some, vfin2_some, at_hp, dcells, List.toList_toArray, List.getElem?_cons_zero, List.length_nil, List.nil_append, List.drop_zero, Option.map_some, ↓reduceIte, reduceCtorEq, Nat.reduceAdd, Nat.reduceLT, Nat.reduceBEq, Int.reduceLT, Int.reduceAdd, Int.reduceBEq, Nat.zero_add, Nat.add_zero, decide_false, and_self, Bool.and_self, beq_self_eq_true, Try.vt3, Try.vfield33x0, dec_t, int_beq_f, Ret, DV.nums, Try.f43, Gr.d, h]

set_option maxHeartbeats 4000000 in
theorem valid_v (t : Lk) (hs : t.sm) : VCalls Try.prog 12 [t.d] [] (Ret (.bool t.okB)) := by
  refine vcalls_drop (fn := Try.f12) Try.func12 rfl (by kernel_rfl) (by simp [Try.f12]) ?_
  have hmode := mode_v t hs
  obtain ⟨held, wait⟩ := t
  obtain ⟨hs1, hs2⟩ := hs
  dsimp only at hs1 hs2 hmode
  by_cases h1 : 1024 < held.length + wait.length
  · have e : Lk.okB ⟨held, wait⟩ = false := by simp [Lk.okB, show ¬ held.length + wait.length ≤ 1024 by omega]
    rw [e]
    have h1' : (1024 : Int) < held.length + wait.length := by omega
    simp (config := { maxSteps := 2000000 }) (implicitDefEqProofs := false) (disch := first | omega | assumption | (simp only []; done) | fail) only [vop_assign, vcallee_assign, vop_box, vcallee_box, vop_load, vcallee_load, vop_binOp, vcallee_binOp, vop_fieldAddr, vcallee_fieldAddr, vop_builtin, vcallee_builtin, bin2_tmp, bin2_int, strip_pv, strip_ptr, strip_agg, optV_none, ev_tmp, ev_const, ofConst_int, ofConst_bool, put_some, at_mk, fits_some, ↓look_cons, ↓vlook_t, ↓vlook_f, guard_none, ↓vrun_nil, ↓code_region, ↓code_seq, ↓code_ret, ↓onNormal_normal, ↓onNormal_ret, frz_pv, frzHeap_zero, res_one, vres_tmp, load_ptr, vld_one, blk_zero, box_eq, allOne_nil, allOne_cons, one_pv, faddr_ptr, vfap_some, bin_int, int_add, int_gtr, len_sl, vlk_sl, bi_len, enum_nil, enum_cons, evG_eq, ↓vrun_cons, ↓run1_some, ↓runG_true, ↓run2_none, ↓run3_some, ↓code_cond, ↓vtest_bool, ↓vbr_true, ↓vpost_ret, vfin_some, vfin2_some, at_hp, List.map_nil, dcells, List.toList_toArray, List.getElem?_cons_zero, List.getElem?_cons_succ, List.length_nil, List.map_cons, List.map_nil, List.nil_append, Option.map_some, ↓reduceIte, reduceCtorEq, Nat.reduceLT, Nat.reduceBEq, Int.reduceLT, Int.reduceBEq, Nat.zero_add, Nat.add_zero, and_self, Bool.and_self, beq_self_eq_true, fz_len, Try.vt24, Try.vkind24, Try.vfield26x0, Try.vfield26x1, wrap_i64_in, dec_t, Ret, DV.nums, Try.f12, Lk.d, h1']
  have h1' : ¬ (1024 : Int) < held.length + wait.length := by omega
  simp (config := { maxSteps := 2000000 }) (implicitDefEqProofs := false) (disch := first | omega | assumption | (simp only []; done) | fail) only [vop_move, vcallee_move, vop_assign, vcallee_assign, vop_box, vcallee_box, vop_load, vcallee_load, vop_binOp, vcallee_binOp, vop_fieldAddr, vcallee_fieldAddr, vop_builtin, vcallee_builtin, bin2_tmp, bin2_int, strip_pv, strip_ptr, strip_agg, optV_none, ev_tmp, ev_const, ofConst_int, ofConst_bool, put_some, at_mk, fits_some, ↓look_cons, ↓vlook_t, ↓vlook_f, guard_none, ↓vrun_nil, ↓code_skip, ↓code_region, ↓code_seq, ↓code_block, ↓code_loop, ↓onNormal_normal, load_ptr, vld_one, blk_zero, box_eq, allOne_nil, allOne_cons, one_pv, faddr_ptr, vfap_some, bin_int, int_add, int_gtr, len_sl, vlk_sl, bi_len, enum_nil, enum_cons, evG_eq, ↓vrun_cons, ↓run1_some, ↓runG_true, ↓run2_none, ↓run3_some, ↓code_cond, ↓vtest_bool, ↓vbr_false, at_hp, List.map_nil, dcells, List.toList_toArray, List.getElem?_cons_zero, List.getElem?_cons_succ, List.length_nil, List.map_cons, List.map_nil, List.nil_append, Option.map_some, ↓reduceIte, reduceCtorEq, Nat.reduceLT, Nat.reduceBEq, Int.reduceLT, Int.reduceBEq, Nat.zero_add, Nat.add_zero, decide_false, true_and, and_self, Bool.true_and, Bool.and_self, beq_self_eq_true, fz_len, Try.vt24, Try.vkind24, Try.vfield26x0, Try.vfield26x1, wrap_i64_in, dec_t, Try.f12, Lk.d, h1']
  refine vloopW (fun s : Okay held.length (Lk.chkH held) => ⟨83, 0, [(18, .int .i64 s.i), (17, .int .i64 held.length), (16, .pv (.sl (fz encG held))), (2, .bool false), (1, .ptr 0 0)], [⟨26, true, [.pv (.sl (fz encG held)), .pv (.sl (fz encG wait))]⟩]⟩) (fun s => held.length - s.i) (Okay.start _ _) (.inl (by refine ⟨rfl, rfl, by simp, ?_, ?_, .inr ⟨?_, ?_⟩⟩ <;> (repeat' apply And.intro) <;> first | rfl | trivial | (intro _; first | rfl | apply cells_refs))) ?_
  intro s
  have hi := s.hi
  simp (config := { maxSteps := 2000000 }) (implicitDefEqProofs := false) (disch := first | omega | assumption | (simp only []; done) | fail) only [vop_binOp, vcallee_binOp, bin2_tmp, strip_pv, optV_none, ev_tmp, put_some, at_mk, fits_some, ↓look_cons, ↓vlook_t, ↓vlook_f, guard_none, ↓vrun_nil, ↓code_region, ↓code_seq, ↓onNormal_normal, bin_int, int_lss, evG_eq, ↓vrun_cons, ↓run1_some, ↓runG_true, ↓run2_none, ↓run3_some, ↓code_cond, ↓vtest_bool, Option.map_some, Nat.reduceLT, Nat.reduceBEq, Int.reduceLT, Int.reduceBEq, true_and, Bool.true_and, beq_self_eq_true, dec_t]
  refine vbr_split (fun hc => ?_) (fun hc => ?_) <;> simp only [decide_eq_true_eq, decide_eq_false_iff_not, Bool.or_eq_true, Bool.and_eq_true, Bool.or_eq_false_iff, Bool.and_eq_false_imp, Bool.not_eq_true', Bool.not_eq_false', beq_iff_eq, beq_eq_false_iff_ne, bne_iff_ne, bne_eq_false_iff_eq, ne_eq] at hc
  · have hlt : s.i < held.length := by omega
    have hg := fzG_at held s.i hlt
    have hd := getD_eq held s.i hlt Gr0
    have hv := valid1_v held[s.i]
    unfold Gr.d at hv
    by_cases z : s.i = 0
    · have z' : (s.i : Int) = 0 := by omega
      have hn1 : vias (some (none, 33, 4)) (fz encG held)[0]? (-1) = none := vias_neg _ _
      by_cases o1 : held[s.i].okB = true
      · have hk : Lk.chkH held s.i = true := by rw [Lk.chkH, hd, o1]; simp [z]
        simp (config := { maxSteps := 2000000 }) (implicitDefEqProofs := false) (disch := first | omega | assumption | (simp only [List.length_cons, List.length_nil, Nat.zero_add, Nat.reduceAdd]; done) | fail) only [vop_move, vcallee_move, vop_assign, vcallee_assign, vop_alloc, vcallee_alloc, vop_load, vcallee_load, vop_store, vcallee_store, vop_indexAddr, vcallee_indexAddr, strip_pv, strip_ptr, strip_ip, strip_agg, optV_none, ev_tmp, put_some, put_none, at_mk, fits_some, fits_none, ↓look_cons, ↓vlook_t, ↓vlook_f, guard_none, ↓vrun_nil, ↓code_skip, ↓code_region, ↓code_draw, ↓code_seq, ↓code_block, ↓onNormal_normal, load_ip, vldp_agg, store_ptr, vst_agg, blk_zero, blk_succ, set_zero, set_succ, alloc_eq, val1_some, allOne_nil, allOne_cons, one_pv, iaddr_sl, vias_some, evG_eq, ↓vrun_cons, ↓run1_some, ↓runG_true, ↓run2_none, ↓run3_some, at_hp, List.map_nil, V.splice, List.length_cons, List.length_nil, List.map_cons, List.map_nil, List.cons_append, List.nil_append, List.append_nil, List.take_succ_cons, List.take_zero, List.take_nil, List.drop_succ_cons, List.drop_nil, Option.map_some, ↓reduceIte, Nat.reduceAdd, Nat.reduceLT, Nat.reduceBEq, Int.reduceLT, Int.reduceAdd, Int.reduceBEq, Int.toNat_natCast, Nat.zero_add, true_and, and_self, Bool.true_and, Bool.and_self, beq_self_eq_true, Nat.le_refl, Try.velem24, Try.vt33, Try.vzero33, dec_t, hg]
        refine vdraw (by kernel_rfl) (by kernel_rfl) ?_
        simp (config := { maxSteps := 2000000 }) (implicitDefEqProofs := false) (disch := first | omega | assumption | (simp only []; done) | fail) only [vop_load, vcallee_load, okKind_load, foot_load, vcallee_value, vcal_fn, ptrNo_ptr, strip_ptr, strip_agg, strip_fn, optV_none, ev_tmp, ev_func, put_some, at_mk, fits_some, ↓look_cons, ↓vlook_t, ↓vlook_f, guard_none, load_ptr, vld_agg, blk_zero, blk_succ, okc_nil, evG_eq, ↓vdr_cons, ↓dr1_some, ↓drG_true, ↓dr2_none, ↓dr2_some, ↓dr3_some, List.map_nil, List.length_cons, List.length_nil, List.map_cons, List.map_nil, List.nil_append, List.append_nil, List.take_succ_cons, List.take_nil, List.drop_zero, Option.map_some, ↓reduceIte, Nat.reduceAdd, Nat.reduceLT, Nat.reduceBEq, Int.reduceLT, Int.reduceAdd, Int.reduceBEq, Nat.zero_add, true_and, Bool.true_and, beq_self_eq_true, Nat.le_refl, Try.vt33, dec_t]
        refine vdc_call (hv) rfl rfl ?_
        simp (config := { maxSteps := 2000000 }) (implicitDefEqProofs := false) (disch := first | omega | assumption | (simp only []; done) | fail) only [vop_move, vcallee_move, okKind_move, foot_move, vop_pick, vcallee_pick, okKind_pick, foot_pick, vop_binOp, vcallee_binOp, okKind_binOp, foot_binOp, vop_unOp, vcallee_unOp, okKind_unOp, foot_unOp, bin2_int, vpick_bool, strip_pv, strip_tup, strip_opt, vstr_true, optV_none, optV_some, pickV_bool, ev_tmp, ev_const, ofConst_int, ofConst_bool, put_some, at_mk, fits_some, ↓look_cons, ↓vlook_t, ↓vlook_f, guard_none, guard_some, vgof_bool, vgof_opt, vgof_skip, ↓vrun_nil, ↓vdr_nil, ↓code_skip, ↓code_region, ↓onNormal_normal, ↓onBlock_normal, bin_int, int_add, int_gtr, un_not, okc_nil, okc_none, okc_other, evG_eq, ↓vrun_cons, ↓run1_some, ↓runG_true, ↓run2_none, ↓run3_some, ↓vdr_cons, ↓dr1_some, ↓drG_true, ↓drG_false, ↓dr2_none, ↓dr3_some, ↓drK_eq, ↓code_cond, ↓vtest_bool, ↓vbr_false, at_hp, pickV_f, List.getElem?_cons_zero, List.getElem?_cons_succ, List.cons_append, List.nil_append, Option.map_some, Option.bind_some, Nat.reduceAdd, Nat.reduceLT, Nat.reduceBEq, Int.reduceLT, Int.reduceAdd, Int.reduceBEq, Nat.zero_add, decide_false, true_and, and_false, or_true, Bool.not_true, Bool.not_false, Bool.or_true, Bool.true_and, Bool.and_false, b_beq_t, cond_false, beq_self_eq_true, wrap_i64_in, dec_t, o1, z']
        try simp only []
        try simp only []
        refine ⟨s.next hlt hk, by show held.length - (s.i + 1) < held.length - s.i; omega, ?_⟩
        rw [show (Okay.next s hlt hk).i = 1 from by show s.i + 1 = 1; omega]
        exact (by refine gc_of (keep := [0]) rfl rfl rfl (by decide) ?_ ?_ <;> (repeat' apply And.intro) <;> first | trivial | rfl | exact ⟨_, rfl, rfl, rfl, .inl ⟨rfl, rfl⟩⟩ | exact ⟨_, rfl, rfl, rfl, .inl ⟨cells_nums _ _ _, rfl⟩⟩ | exact ⟨_, rfl, rfl, rfl, .inl ⟨pvs_nums _ _, rfl⟩⟩ | exact ⟨_, rfl, rfl, rfl, .inr ⟨rfl, rfl⟩⟩)
      · have o2 : held[s.i].okB = false := by simpa using o1
        have hk : Lk.chkH held s.i = false := by rw [Lk.chkH, hd, o2]; rfl
        have e : Lk.okB ⟨held, wait⟩ = false := by rw [Lk.okB, all_not hlt hk]; simp
        rw [e]
        simp (config := { maxSteps := 2000000 }) (implicitDefEqProofs := false) (disch := first | omega | assumption | (simp only [List.length_cons, List.length_nil, Nat.zero_add, Nat.reduceAdd]; done) | fail) only [vop_move, vcallee_move, vop_assign, vcallee_assign, vop_alloc, vcallee_alloc, vop_load, vcallee_load, vop_store, vcallee_store, vop_indexAddr, vcallee_indexAddr, strip_pv, strip_ptr, strip_ip, strip_agg, optV_none, ev_tmp, put_some, put_none, at_mk, fits_some, fits_none, ↓look_cons, ↓vlook_t, ↓vlook_f, guard_none, ↓vrun_nil, ↓code_skip, ↓code_region, ↓code_draw, ↓code_seq, ↓code_block, ↓onNormal_normal, load_ip, vldp_agg, store_ptr, vst_agg, blk_zero, blk_succ, set_zero, set_succ, alloc_eq, val1_some, allOne_nil, allOne_cons, one_pv, iaddr_sl, vias_some, evG_eq, ↓vrun_cons, ↓run1_some, ↓runG_true, ↓run2_none, ↓run3_some, at_hp, List.map_nil, V.splice, List.length_cons, List.length_nil, List.map_cons, List.map_nil, List.cons_append, List.nil_append, List.append_nil, List.take_succ_cons, List.take_zero, List.take_nil, List.drop_succ_cons, List.drop_nil, Option.map_some, ↓reduceIte, Nat.reduceAdd, Nat.reduceLT, Nat.reduceBEq, Int.reduceLT, Int.reduceAdd, Int.reduceBEq, Int.toNat_natCast, Nat.zero_add, true_and, and_self, Bool.true_and, Bool.and_self, beq_self_eq_true, Nat.le_refl, Try.velem24, Try.vt33, Try.vzero33, dec_t, hg]
        refine vdraw (by kernel_rfl) (by kernel_rfl) ?_
        simp (config := { maxSteps := 2000000 }) (implicitDefEqProofs := false) (disch := first | omega | assumption | (simp only []; done) | fail) only [vop_load, vcallee_load, okKind_load, foot_load, vcallee_value, vcal_fn, ptrNo_ptr, strip_ptr, strip_agg, strip_fn, optV_none, ev_tmp, ev_func, put_some, at_mk, fits_some, ↓look_cons, ↓vlook_t, ↓vlook_f, guard_none, load_ptr, vld_agg, blk_zero, blk_succ, okc_nil, evG_eq, ↓vdr_cons, ↓dr1_some, ↓drG_true, ↓dr2_none, ↓dr2_some, ↓dr3_some, List.map_nil, List.length_cons, List.length_nil, List.map_cons, List.map_nil, List.nil_append, List.append_nil, List.take_succ_cons, List.take_nil, List.drop_zero, Option.map_some, ↓reduceIte, Nat.reduceAdd, Nat.reduceLT, Nat.reduceBEq, Int.reduceLT, Int.reduceAdd, Int.reduceBEq, Nat.zero_add, true_and, Bool.true_and, beq_self_eq_true, Nat.le_refl, Try.vt33, dec_t]
        refine vdc_call (hv) rfl rfl ?_
        simp (config := { maxSteps := 2000000 }) (implicitDefEqProofs := false) (disch := first | omega | assumption | (simp only []; done) | fail) only [vop_move, vcallee_move, okKind_move, foot_move, vop_assign, vcallee_assign, vop_pick, vcallee_pick, okKind_pick, foot_pick, vop_unOp, vcallee_unOp, okKind_unOp, foot_unOp, vpick_bool, strip_pv, strip_tup, optV_none, ev_tmp, ev_const, ofConst_bool, put_some, at_mk, fits_some, ↓look_cons, ↓vlook_t, ↓vlook_f, guard_none, guard_some, vgof_bool, vgof_skip, ↓vrun_nil, ↓vdr_nil, ↓code_region, ↓code_seq, ↓code_ret, ↓onNormal_normal, ↓onNormal_ret, ↓onBlock_ret, frz_pv, frzHeap_zero, res_one, vres_tmp, un_not, okc_nil, okc_none, okc_other, evG_eq, ↓vrun_cons, ↓run1_some, ↓runG_true, ↓run2_none, ↓run3_some, ↓vdr_cons, ↓dr1_some, ↓drG_true, ↓drG_false, ↓dr2_none, ↓dr3_some, ↓drK_eq, ↓code_cond, ↓vtest_bool, ↓vbr_true, ↓vpost_ret, vfin_some, vfin2_some, at_hp, pickV_t, List.getElem?_cons_zero, List.getElem?_cons_succ, List.cons_append, List.nil_append, Option.map_some, Option.bind_some, Nat.reduceAdd, Nat.reduceLT, Nat.reduceBEq, Int.reduceLT, Int.reduceAdd, Int.reduceBEq, Nat.zero_add, and_self, Bool.not_true, Bool.not_false, Bool.and_self, b_beq_f, beq_self_eq_true, dec_t, Ret, DV.nums, o2, z']
        try simp only []
        try simp only []
    · have hgp : (fz encG held)[((s.i : Int) - 1).toNat]? = some [.lit (.int .i64 held[s.i - 1].tx), .lit (.int .i64 held[s.i - 1].pg), .lit (.int .i64 held[s.i - 1].sl), .lit (.int .i64 held[s.i - 1].md)] := by
        rw [show ((s.i : Int) - 1).toNat = s.i - 1 by omega]; exact fzG_at held (s.i - 1) (by omega)
      have hdp := getD_eq held (s.i - 1) (by omega) Gr0
      have z' : ¬ (s.i : Int) = 0 := by omega
      have z2 : (0 : Int) < s.i := by omega
      have ho := order_v held[s.i - 1] held[s.i]
      have hcf := conflict_v held[s.i - 1] held[s.i]
      unfold Gr.d at ho hcf
      by_cases o1 : held[s.i].okB = true
      · by_cases o2 : ordG held[s.i - 1] held[s.i] < 0
        · have o2' : ¬ 0 ≤ ordG held[s.i - 1] held[s.i] := by omega
          by_cases o3 : confB held[s.i - 1] held[s.i] = true
          · have hk : Lk.chkH held s.i = false := by rw [Lk.chkH, hd, hdp, o3]; simp [z]
            have e : Lk.okB ⟨held, wait⟩ = false := by rw [Lk.okB, all_not hlt hk]; simp
            rw [e]
            simp (config := { maxSteps := 2000000 }) (implicitDefEqProofs := false) (disch := first | omega | assumption | (simp only [List.length_cons, List.length_nil, Nat.zero_add, Nat.reduceAdd]; done) | fail) only [vop_move, vcallee_move, vop_assign, vcallee_assign, vop_alloc, vcallee_alloc, vop_load, vcallee_load, vop_store, vcallee_store, vop_indexAddr, vcallee_indexAddr, strip_pv, strip_ptr, strip_ip, strip_agg, optV_none, ev_tmp, put_some, put_none, at_mk, fits_some, fits_none, ↓look_cons, ↓vlook_t, ↓vlook_f, guard_none, ↓vrun_nil, ↓code_skip, ↓code_region, ↓code_draw, ↓code_seq, ↓code_block, ↓onNormal_normal, load_ip, vldp_agg, store_ptr, vst_agg, blk_zero, blk_succ, set_zero, set_succ, alloc_eq, val1_some, allOne_nil, allOne_cons, one_pv, iaddr_sl, vias_some, evG_eq, ↓vrun_cons, ↓run1_some, ↓runG_true, ↓run2_none, ↓run3_some, at_hp, List.map_nil, V.splice, List.length_cons, List.length_nil, List.map_cons, List.map_nil, List.cons_append, List.nil_append, List.append_nil, List.take_succ_cons, List.take_zero, List.take_nil, List.drop_succ_cons, List.drop_nil, Option.map_some, ↓reduceIte, Nat.reduceAdd, Nat.reduceLT, Nat.reduceBEq, Int.reduceLT, Int.reduceAdd, Int.reduceBEq, Int.toNat_natCast, Nat.zero_add, true_and, and_self, Bool.true_and, Bool.and_self, beq_self_eq_true, Nat.le_refl, Try.velem24, Try.vt33, Try.vzero33, dec_t, hg]
            refine vdraw (by kernel_rfl) (by kernel_rfl) ?_
            simp (config := { maxSteps := 2000000 }) (implicitDefEqProofs := false) (disch := first | omega | assumption | (simp only []; done) | fail) only [vop_load, vcallee_load, okKind_load, foot_load, vcallee_value, vcal_fn, ptrNo_ptr, strip_ptr, strip_agg, strip_fn, optV_none, ev_tmp, ev_func, put_some, at_mk, fits_some, ↓look_cons, ↓vlook_t, ↓vlook_f, guard_none, load_ptr, vld_agg, blk_zero, blk_succ, okc_nil, evG_eq, ↓vdr_cons, ↓dr1_some, ↓drG_true, ↓dr2_none, ↓dr2_some, ↓dr3_some, List.map_nil, List.length_cons, List.length_nil, List.map_cons, List.map_nil, List.nil_append, List.append_nil, List.take_succ_cons, List.take_nil, List.drop_zero, Option.map_some, ↓reduceIte, Nat.reduceAdd, Nat.reduceLT, Nat.reduceBEq, Int.reduceLT, Int.reduceAdd, Int.reduceBEq, Nat.zero_add, true_and, Bool.true_and, beq_self_eq_true, Nat.le_refl, Try.vt33, dec_t]
            refine vdc_call (hv) rfl rfl ?_
            simp (config := { maxSteps := 2000000 }) (implicitDefEqProofs := false) (disch := first | omega | assumption | (simp only [List.length_cons, List.length_nil, Nat.zero_add, Nat.reduceAdd]; done) | fail) only [vop_move, vcallee_move, okKind_move, foot_move, vop_load, vcallee_load, okKind_load, vop_binOp, vcallee_binOp, okKind_binOp, foot_binOp, vop_unOp, vcallee_unOp, okKind_unOp, foot_unOp, vop_fieldAddr, vcallee_fieldAddr, okKind_fieldAddr, foot_fieldAddr, vop_indexAddr, vcallee_indexAddr, okKind_indexAddr, foot_indexAddr, foot_load, vcallee_value, vcal_fn, ptrNo_ptr, ptrNo_ip, bin2_int, strip_pv, strip_ptr, strip_fn, strip_opt, vstr_true, optV_none, optV_some, ev_tmp, ev_const, ev_func, ofConst_int, put_some, at_mk, fits_some, ↓look_cons, ↓vlook_t, ↓vlook_f, guard_none, guard_some, vgof_bool, vgof_opt, load_ptr, load_ip, vld_one, vld_agg, vldp_agg, blk_zero, blk_succ, faddr_ptr, vfap_some, iaddr_sl, vias_some, bin_int, int_sub, int_gtr, un_not, okc_nil, okc_none, okc_other, okc_one, evG_eq, ↓vdr_cons, ↓dr1_some, ↓drG_true, ↓dr2_none, ↓dr2_some, ↓dr3_some, ↓drK_eq, at_hp, List.map_nil, List.getElem?_cons_zero, List.getElem?_cons_succ, List.length_cons, List.length_nil, List.map_cons, List.map_nil, List.cons_append, List.nil_append, List.append_nil, List.take_succ_cons, List.take_nil, List.drop_zero, List.any_nil, List.any_cons, Option.map_some, Option.bind_some, ↓reduceIte, reduceCtorEq, Nat.reduceAdd, Nat.reduceLT, Nat.reduceBEq, Int.reduceLT, Int.reduceAdd, Int.reduceBEq, Nat.zero_add, Nat.add_zero, true_and, and_true, and_self, and_false, or_true, or_false, or_self, Bool.not_true, Bool.not_false, Bool.or_true, Bool.or_false, Bool.and_true, Bool.true_and, Bool.and_false, Bool.or_self, Bool.and_self, beq_self_eq_true, Nat.le_refl, Try.vt24, Try.velem24, Try.vfield26x0, Try.vt33, wrap_i64_in, dec_t, o1, z2, hgp]
            refine vdc_call (ho) rfl rfl ?_
            simp (config := { maxSteps := 2000000 }) (implicitDefEqProofs := false) (disch := first | omega | assumption | (simp only [List.length_cons, List.length_nil, Nat.zero_add, Nat.reduceAdd]; done) | fail) only [vop_move, vcallee_move, okKind_move, foot_move, vop_load, vcallee_load, okKind_load, vop_binOp, vcallee_binOp, okKind_binOp, foot_binOp, vop_fieldAddr, vcallee_fieldAddr, okKind_fieldAddr, foot_fieldAddr, vop_indexAddr, vcallee_indexAddr, okKind_indexAddr, foot_indexAddr, foot_load, vcallee_value, vcal_fn, ptrNo_ptr, ptrNo_ip, bin2_int, strip_pv, strip_ptr, strip_fn, strip_opt, vstr_true, optV_some, ev_tmp, ev_const, ev_func, ofConst_int, put_some, at_mk, fits_some, ↓look_cons, ↓vlook_t, ↓vlook_f, guard_some, vgof_opt, load_ptr, load_ip, vld_one, vld_agg, vldp_agg, blk_zero, blk_succ, faddr_ptr, vfap_some, iaddr_sl, vias_some, bin_int, int_sub, int_geq, okc_nil, okc_none, okc_other, okc_one, evG_eq, ↓vdr_cons, ↓dr1_some, ↓drG_true, ↓dr2_none, ↓dr2_some, ↓dr3_some, ↓drK_eq, at_hp, List.map_nil, List.getElem?_cons_zero, List.getElem?_cons_succ, List.length_cons, List.length_nil, List.map_cons, List.map_nil, List.cons_append, List.nil_append, List.append_nil, List.take_succ_cons, List.take_nil, List.drop_zero, List.any_nil, List.any_cons, Option.map_some, Option.bind_some, ↓reduceIte, reduceCtorEq, Nat.reduceAdd, Nat.reduceLT, Nat.reduceBEq, Int.reduceLT, Int.reduceAdd, Int.reduceBEq, Nat.zero_add, Nat.add_zero, decide_false, true_and, and_true, and_self, and_false, or_true, or_false, or_self, Bool.not_true, Bool.not_false, Bool.or_true, Bool.or_false, Bool.and_true, Bool.true_and, Bool.and_false, Bool.or_self, Bool.and_self, beq_self_eq_true, Nat.le_refl, Try.vt24, Try.velem24, Try.vfield26x0, Try.vt33, wrap_i64_in, dec_t, o2', hgp]
            refine vdc_call (hcf) rfl rfl ?_
            simp (config := { maxSteps := 2000000 }) (implicitDefEqProofs := false) (disch := first | omega | assumption | (simp only []; done) | fail) only [vop_assign, vcallee_assign, vop_pick, vcallee_pick, okKind_pick, foot_pick, vpick_bool, strip_pv, strip_opt, vstr_true, optV_none, optV_some, pickV_bool, ev_tmp, ev_const, ofConst_bool, put_some, at_mk, fits_some, ↓look_cons, ↓vlook_t, ↓vlook_f, guard_none, guard_some, vgof_bool, vgof_opt, ↓vrun_nil, ↓vdr_nil, ↓code_region, ↓code_seq, ↓code_ret, ↓onNormal_normal, ↓onNormal_ret, ↓onBlock_ret, frz_pv, frzHeap_zero, res_one, vres_tmp, okc_nil, okc_none, okc_other, evG_eq, ↓vrun_cons, ↓run1_some, ↓runG_true, ↓run2_none, ↓run3_some, ↓vdr_cons, ↓dr1_some, ↓drG_true, ↓dr2_none, ↓dr3_some, ↓drK_eq, ↓code_cond, ↓vtest_bool, ↓vbr_true, ↓vpost_ret, vfin_some, vfin2_some, at_hp, List.getElem?_cons_zero, List.getElem?_cons_succ, List.cons_append, List.nil_append, Option.map_some, Option.bind_some, Nat.reduceAdd, Nat.reduceLT, Nat.reduceBEq, Int.reduceLT, Int.reduceAdd, Int.reduceBEq, Nat.zero_add, and_self, or_true, Bool.not_true, Bool.not_false, Bool.or_true, Bool.and_self, cond_true, Bool.cond_self, beq_self_eq_true, dec_t, Ret, DV.nums, o3]
          · have o4 : confB held[s.i - 1] held[s.i] = false := by simpa using o3
            have hk : Lk.chkH held s.i = true := by rw [Lk.chkH, hd, hdp, o4, o1]; simp [o2]
            simp (config := { maxSteps := 2000000 }) (implicitDefEqProofs := false) (disch := first | omega | assumption | (simp only [List.length_cons, List.length_nil, Nat.zero_add, Nat.reduceAdd]; done) | fail) only [vop_move, vcallee_move, vop_assign, vcallee_assign, vop_alloc, vcallee_alloc, vop_load, vcallee_load, vop_store, vcallee_store, vop_indexAddr, vcallee_indexAddr, strip_pv, strip_ptr, strip_ip, strip_agg, optV_none, ev_tmp, put_some, put_none, at_mk, fits_some, fits_none, ↓look_cons, ↓vlook_t, ↓vlook_f, guard_none, ↓vrun_nil, ↓code_skip, ↓code_region, ↓code_draw, ↓code_seq, ↓code_block, ↓onNormal_normal, load_ip, vldp_agg, store_ptr, vst_agg, blk_zero, blk_succ, set_zero, set_succ, alloc_eq, val1_some, allOne_nil, allOne_cons, one_pv, iaddr_sl, vias_some, evG_eq, ↓vrun_cons, ↓run1_some, ↓runG_true, ↓run2_none, ↓run3_some, at_hp, List.map_nil, V.splice, List.length_cons, List.length_nil, List.map_cons, List.map_nil, List.cons_append, List.nil_append, List.append_nil, List.take_succ_cons, List.take_zero, List.take_nil, List.drop_succ_cons, List.drop_nil, Option.map_some, ↓reduceIte, Nat.reduceAdd, Nat.reduceLT, Nat.reduceBEq, Int.reduceLT, Int.reduceAdd, Int.reduceBEq, Int.toNat_natCast, Nat.zero_add, true_and, and_self, Bool.true_and, Bool.and_self, beq_self_eq_true, Nat.le_refl, Try.velem24, Try.vt33, Try.vzero33, dec_t, hg]
            refine vdraw (by kernel_rfl) (by kernel_rfl) ?_
            simp (config := { maxSteps := 2000000 }) (implicitDefEqProofs := false) (disch := first | omega | assumption | (simp only []; done) | fail) only [vop_load, vcallee_load, okKind_load, foot_load, vcallee_value, vcal_fn, ptrNo_ptr, strip_ptr, strip_agg, strip_fn, optV_none, ev_tmp, ev_func, put_some, at_mk, fits_some, ↓look_cons, ↓vlook_t, ↓vlook_f, guard_none, load_ptr, vld_agg, blk_zero, blk_succ, okc_nil, evG_eq, ↓vdr_cons, ↓dr1_some, ↓drG_true, ↓dr2_none, ↓dr2_some, ↓dr3_some, List.map_nil, List.length_cons, List.length_nil, List.map_cons, List.map_nil, List.nil_append, List.append_nil, List.take_succ_cons, List.take_nil, List.drop_zero, Option.map_some, ↓reduceIte, Nat.reduceAdd, Nat.reduceLT, Nat.reduceBEq, Int.reduceLT, Int.reduceAdd, Int.reduceBEq, Nat.zero_add, true_and, Bool.true_and, beq_self_eq_true, Nat.le_refl, Try.vt33, dec_t]
            refine vdc_call (hv) rfl rfl ?_
            simp (config := { maxSteps := 2000000 }) (implicitDefEqProofs := false) (disch := first | omega | assumption | (simp only [List.length_cons, List.length_nil, Nat.zero_add, Nat.reduceAdd]; done) | fail) only [vop_move, vcallee_move, okKind_move, foot_move, vop_load, vcallee_load, okKind_load, vop_binOp, vcallee_binOp, okKind_binOp, foot_binOp, vop_unOp, vcallee_unOp, okKind_unOp, foot_unOp, vop_fieldAddr, vcallee_fieldAddr, okKind_fieldAddr, foot_fieldAddr, vop_indexAddr, vcallee_indexAddr, okKind_indexAddr, foot_indexAddr, foot_load, vcallee_value, vcal_fn, ptrNo_ptr, ptrNo_ip, bin2_int, strip_pv, strip_ptr, strip_fn, strip_opt, vstr_true, optV_none, optV_some, ev_tmp, ev_const, ev_func, ofConst_int, put_some, at_mk, fits_some, ↓look_cons, ↓vlook_t, ↓vlook_f, guard_none, guard_some, vgof_bool, vgof_opt, load_ptr, load_ip, vld_one, vld_agg, vldp_agg, blk_zero, blk_succ, faddr_ptr, vfap_some, iaddr_sl, vias_some, bin_int, int_sub, int_gtr, un_not, okc_nil, okc_none, okc_other, okc_one, evG_eq, ↓vdr_cons, ↓dr1_some, ↓drG_true, ↓dr2_none, ↓dr2_some, ↓dr3_some, ↓drK_eq, at_hp, List.map_nil, List.getElem?_cons_zero, List.getElem?_cons_succ, List.length_cons, List.length_nil, List.map_cons, List.map_nil, List.cons_append, List.nil_append, List.append_nil, List.take_succ_cons, List.take_nil, List.drop_zero, List.any_nil, List.any_cons, Option.map_some, Option.bind_some, ↓reduceIte, reduceCtorEq, Nat.reduceAdd, Nat.reduceLT, Nat.reduceBEq, Int.reduceLT, Int.reduceAdd, Int.reduceBEq, Nat.zero_add, Nat.add_zero, true_and, and_true, and_self, and_false, or_true, or_false, or_self, Bool.not_true, Bool.not_false, Bool.or_true, Bool.or_false, Bool.and_true, Bool.true_and, Bool.and_false, Bool.or_self, Bool.and_self, beq_self_eq_true, Nat.le_refl, Try.vt24, Try.velem24, Try.vfield26x0, Try.vt33, wrap_i64_in, dec_t, o1, z2, hgp]
            refine vdc_call (ho) rfl rfl ?_
            simp (config := { maxSteps := 2000000 }) (implicitDefEqProofs := false) (disch := first | omega | assumption | (simp only [List.length_cons, List.length_nil, Nat.zero_add, Nat.reduceAdd]; done) | fail) only [vop_move, vcallee_move, okKind_move, foot_move, vop_load, vcallee_load, okKind_load, vop_binOp, vcallee_binOp, okKind_binOp, foot_binOp, vop_fieldAddr, vcallee_fieldAddr, okKind_fieldAddr, foot_fieldAddr, vop_indexAddr, vcallee_indexAddr, okKind_indexAddr, foot_indexAddr, foot_load, vcallee_value, vcal_fn, ptrNo_ptr, ptrNo_ip, bin2_int, strip_pv, strip_ptr, strip_fn, strip_opt, vstr_true, optV_some, ev_tmp, ev_const, ev_func, ofConst_int, put_some, at_mk, fits_some, ↓look_cons, ↓vlook_t, ↓vlook_f, guard_some, vgof_opt, load_ptr, load_ip, vld_one, vld_agg, vldp_agg, blk_zero, blk_succ, faddr_ptr, vfap_some, iaddr_sl, vias_some, bin_int, int_sub, int_geq, okc_nil, okc_none, okc_other, okc_one, evG_eq, ↓vdr_cons, ↓dr1_some, ↓drG_true, ↓dr2_none, ↓dr2_some, ↓dr3_some, ↓drK_eq, at_hp, List.map_nil, List.getElem?_cons_zero, List.getElem?_cons_succ, List.length_cons, List.length_nil, List.map_cons, List.map_nil, List.cons_append, List.nil_append, List.append_nil, List.take_succ_cons, List.take_nil, List.drop_zero, List.any_nil, List.any_cons, Option.map_some, Option.bind_some, ↓reduceIte, reduceCtorEq, Nat.reduceAdd, Nat.reduceLT, Nat.reduceBEq, Int.reduceLT, Int.reduceAdd, Int.reduceBEq, Nat.zero_add, Nat.add_zero, decide_false, true_and, and_true, and_self, and_false, or_true, or_false, or_self, Bool.not_true, Bool.not_false, Bool.or_true, Bool.or_false, Bool.and_true, Bool.true_and, Bool.and_false, Bool.or_self, Bool.and_self, beq_self_eq_true, Nat.le_refl, Try.vt24, Try.velem24, Try.vfield26x0, Try.vt33, wrap_i64_in, dec_t, o2', hgp]
            refine vdc_call (hcf) rfl rfl ?_
            simp (config := { maxSteps := 2000000 }) (implicitDefEqProofs := false) (disch := first | omega | assumption | (simp only []; done) | fail) only [vop_move, vcallee_move, vop_pick, vcallee_pick, okKind_pick, foot_pick, vop_binOp, vcallee_binOp, bin2_int, vpick_bool, strip_pv, strip_opt, vstr_true, optV_none, optV_some, pickV_bool, ev_tmp, ev_const, ofConst_int, ofConst_bool, put_some, at_mk, fits_some, ↓look_cons, ↓vlook_t, ↓vlook_f, guard_none, guard_some, vgof_bool, vgof_opt, ↓vrun_nil, ↓vdr_nil, ↓code_skip, ↓code_region, ↓onNormal_normal, ↓onBlock_normal, bin_int, int_add, okc_nil, okc_none, okc_other, evG_eq, ↓vrun_cons, ↓run1_some, ↓runG_true, ↓run2_none, ↓run3_some, ↓vdr_cons, ↓dr1_some, ↓drG_true, ↓dr2_none, ↓dr3_some, ↓drK_eq, ↓code_cond, ↓vtest_bool, ↓vbr_false, at_hp, List.getElem?_cons_zero, List.getElem?_cons_succ, List.cons_append, List.nil_append, Option.map_some, Option.bind_some, Nat.reduceAdd, Nat.reduceLT, Nat.reduceBEq, Int.reduceLT, Int.reduceAdd, Int.reduceBEq, Nat.zero_add, true_and, and_self, or_true, Bool.not_true, Bool.not_false, Bool.or_true, Bool.true_and, Bool.and_self, cond_false, Bool.cond_self, beq_self_eq_true, wrap_i64_in, dec_t, o4]
            exact ⟨s.next hlt hk, by show held.length - (s.i + 1) < held.length - s.i; omega, (by refine gc_of (keep := [0]) rfl rfl rfl (by decide) ?_ ?_ <;> (repeat' apply And.intro) <;> first | trivial | rfl | exact ⟨_, rfl, rfl, rfl, .inl ⟨rfl, rfl⟩⟩ | exact ⟨_, rfl, rfl, rfl, .inl ⟨cells_nums _ _ _, rfl⟩⟩ | exact ⟨_, rfl, rfl, rfl, .inl ⟨pvs_nums _ _, rfl⟩⟩ | exact ⟨_, rfl, rfl, rfl, .inr ⟨rfl, rfl⟩⟩)⟩
        · have hk : Lk.chkH held s.i = false := by rw [Lk.chkH, hd, hdp]; simp [z, o2]
          have e : Lk.okB ⟨held, wait⟩ = false := by rw [Lk.okB, all_not hlt hk]; simp
          rw [e]
          have o2' : 0 ≤ ordG held[s.i - 1] held[s.i] := by omega
          simp (config := { maxSteps := 2000000 }) (implicitDefEqProofs := false) (disch := first | omega | assumption | (simp only [List.length_cons, List.length_nil, Nat.zero_add, Nat.reduceAdd]; done) | fail) only [vop_move, vcallee_move, vop_assign, vcallee_assign, vop_alloc, vcallee_alloc, vop_load, vcallee_load, vop_store, vcallee_store, vop_indexAddr, vcallee_indexAddr, strip_pv, strip_ptr, strip_ip, strip_agg, optV_none, ev_tmp, put_some, put_none, at_mk, fits_some, fits_none, ↓look_cons, ↓vlook_t, ↓vlook_f, guard_none, ↓vrun_nil, ↓code_skip, ↓code_region, ↓code_draw, ↓code_seq, ↓code_block, ↓onNormal_normal, load_ip, vldp_agg, store_ptr, vst_agg, blk_zero, blk_succ, set_zero, set_succ, alloc_eq, val1_some, allOne_nil, allOne_cons, one_pv, iaddr_sl, vias_some, evG_eq, ↓vrun_cons, ↓run1_some, ↓runG_true, ↓run2_none, ↓run3_some, at_hp, List.map_nil, V.splice, List.length_cons, List.length_nil, List.map_cons, List.map_nil, List.cons_append, List.nil_append, List.append_nil, List.take_succ_cons, List.take_zero, List.take_nil, List.drop_succ_cons, List.drop_nil, Option.map_some, ↓reduceIte, Nat.reduceAdd, Nat.reduceLT, Nat.reduceBEq, Int.reduceLT, Int.reduceAdd, Int.reduceBEq, Int.toNat_natCast, Nat.zero_add, true_and, and_self, Bool.true_and, Bool.and_self, beq_self_eq_true, Nat.le_refl, Try.velem24, Try.vt33, Try.vzero33, dec_t, hg]
          refine vdraw (by kernel_rfl) (by kernel_rfl) ?_
          simp (config := { maxSteps := 2000000 }) (implicitDefEqProofs := false) (disch := first | omega | assumption | (simp only []; done) | fail) only [vop_load, vcallee_load, okKind_load, foot_load, vcallee_value, vcal_fn, ptrNo_ptr, strip_ptr, strip_agg, strip_fn, optV_none, ev_tmp, ev_func, put_some, at_mk, fits_some, ↓look_cons, ↓vlook_t, ↓vlook_f, guard_none, load_ptr, vld_agg, blk_zero, blk_succ, okc_nil, evG_eq, ↓vdr_cons, ↓dr1_some, ↓drG_true, ↓dr2_none, ↓dr2_some, ↓dr3_some, List.map_nil, List.length_cons, List.length_nil, List.map_cons, List.map_nil, List.nil_append, List.append_nil, List.take_succ_cons, List.take_nil, List.drop_zero, Option.map_some, ↓reduceIte, Nat.reduceAdd, Nat.reduceLT, Nat.reduceBEq, Int.reduceLT, Int.reduceAdd, Int.reduceBEq, Nat.zero_add, true_and, Bool.true_and, beq_self_eq_true, Nat.le_refl, Try.vt33, dec_t]
          refine vdc_call (hv) rfl rfl ?_
          simp (config := { maxSteps := 2000000 }) (implicitDefEqProofs := false) (disch := first | omega | assumption | (simp only [List.length_cons, List.length_nil, Nat.zero_add, Nat.reduceAdd]; done) | fail) only [vop_move, vcallee_move, okKind_move, foot_move, vop_load, vcallee_load, okKind_load, vop_binOp, vcallee_binOp, okKind_binOp, foot_binOp, vop_unOp, vcallee_unOp, okKind_unOp, foot_unOp, vop_fieldAddr, vcallee_fieldAddr, okKind_fieldAddr, foot_fieldAddr, vop_indexAddr, vcallee_indexAddr, okKind_indexAddr, foot_indexAddr, foot_load, vcallee_value, vcal_fn, ptrNo_ptr, ptrNo_ip, bin2_int, strip_pv, strip_ptr, strip_fn, strip_opt, vstr_true, optV_none, optV_some, ev_tmp, ev_const, ev_func, ofConst_int, put_some, at_mk, fits_some, ↓look_cons, ↓vlook_t, ↓vlook_f, guard_none, guard_some, vgof_bool, vgof_opt, load_ptr, load_ip, vld_one, vld_agg, vldp_agg, blk_zero, blk_succ, faddr_ptr, vfap_some, iaddr_sl, vias_some, bin_int, int_sub, int_gtr, un_not, okc_nil, okc_none, okc_other, okc_one, evG_eq, ↓vdr_cons, ↓dr1_some, ↓drG_true, ↓dr2_none, ↓dr2_some, ↓dr3_some, ↓drK_eq, at_hp, List.map_nil, List.getElem?_cons_zero, List.getElem?_cons_succ, List.length_cons, List.length_nil, List.map_cons, List.map_nil, List.cons_append, List.nil_append, List.append_nil, List.take_succ_cons, List.take_nil, List.drop_zero, List.any_nil, List.any_cons, Option.map_some, Option.bind_some, ↓reduceIte, reduceCtorEq, Nat.reduceAdd, Nat.reduceLT, Nat.reduceBEq, Int.reduceLT, Int.reduceAdd, Int.reduceBEq, Nat.zero_add, Nat.add_zero, true_and, and_true, and_self, and_false, or_true, or_false, or_self, Bool.not_true, Bool.not_false, Bool.or_true, Bool.or_false, Bool.and_true, Bool.true_and, Bool.and_false, Bool.or_self, Bool.and_self, beq_self_eq_true, Nat.le_refl, Try.vt24, Try.velem24, Try.vfield26x0, Try.vt33, wrap_i64_in, dec_t, o1, z2, hgp]
          refine vdc_call (ho) rfl rfl ?_
          simp (config := { maxSteps := 2000000 }) (implicitDefEqProofs := false) (disch := first | omega | assumption | (simp only []; done) | fail) only [vop_move, vcallee_move, okKind_move, foot_move, vop_assign, vcallee_assign, vop_pick, vcallee_pick, okKind_pick, foot_pick, vop_binOp, vcallee_binOp, okKind_binOp, foot_binOp, bin2_int, vpick_bool, strip_pv, strip_tup, strip_opt, vstr_true, optV_none, optV_some, pickV_bool, ev_tmp, ev_const, ofConst_int, ofConst_bool, put_some, at_mk, fits_some, ↓look_cons, ↓vlook_t, ↓vlook_f, guard_none, guard_some, vgof_bool, vgof_opt, ↓vrun_nil, ↓vdr_nil, ↓code_region, ↓code_seq, ↓code_ret, ↓onNormal_normal, ↓onNormal_ret, ↓onBlock_ret, frz_pv, frzHeap_zero, res_one, vres_tmp, bin_int, int_geq, okc_nil, okc_none, okc_other, evG_eq, ↓vrun_cons, ↓run1_some, ↓runG_true, ↓run2_none, ↓run3_some, ↓vdr_cons, ↓dr1_some, ↓drG_true, ↓drG_false, ↓dr2_none, ↓dr3_some, ↓drK_eq, ↓code_cond, ↓vtest_bool, ↓vbr_true, ↓vpost_ret, vfin_some, vfin2_some, at_hp, pickV_t, List.getElem?_cons_zero, List.getElem?_cons_succ, List.cons_append, List.nil_append, Option.map_some, Option.bind_some, Nat.reduceAdd, Nat.reduceLT, Nat.reduceBEq, Int.reduceLT, Int.reduceAdd, Int.reduceBEq, Nat.zero_add, and_self, and_false, or_true, Bool.not_true, Bool.not_false, Bool.or_true, Bool.and_false, Bool.and_self, b_beq_f, cond_true, Bool.cond_self, beq_self_eq_true, dec_t, Ret, DV.nums, o2']
      · have o2 : held[s.i].okB = false := by simpa using o1
        have hk : Lk.chkH held s.i = false := by rw [Lk.chkH, hd, o2]; rfl
        have e : Lk.okB ⟨held, wait⟩ = false := by rw [Lk.okB, all_not hlt hk]; simp
        rw [e]
        simp (config := { maxSteps := 2000000 }) (implicitDefEqProofs := false) (disch := first | omega | assumption | (simp only [List.length_cons, List.length_nil, Nat.zero_add, Nat.reduceAdd]; done) | fail) only [vop_move, vcallee_move, vop_assign, vcallee_assign, vop_alloc, vcallee_alloc, vop_load, vcallee_load, vop_store, vcallee_store, vop_indexAddr, vcallee_indexAddr, strip_pv, strip_ptr, strip_ip, strip_agg, optV_none, ev_tmp, put_some, put_none, at_mk, fits_some, fits_none, ↓look_cons, ↓vlook_t, ↓vlook_f, guard_none, ↓vrun_nil, ↓code_skip, ↓code_region, ↓code_draw, ↓code_seq, ↓code_block, ↓onNormal_normal, load_ip, vldp_agg, store_ptr, vst_agg, blk_zero, blk_succ, set_zero, set_succ, alloc_eq, val1_some, allOne_nil, allOne_cons, one_pv, iaddr_sl, vias_some, evG_eq, ↓vrun_cons, ↓run1_some, ↓runG_true, ↓run2_none, ↓run3_some, at_hp, List.map_nil, V.splice, List.length_cons, List.length_nil, List.map_cons, List.map_nil, List.cons_append, List.nil_append, List.append_nil, List.take_succ_cons, List.take_zero, List.take_nil, List.drop_succ_cons, List.drop_nil, Option.map_some, ↓reduceIte, Nat.reduceAdd, Nat.reduceLT, Nat.reduceBEq, Int.reduceLT, Int.reduceAdd, Int.reduceBEq, Int.toNat_natCast, Nat.zero_add, true_and, and_self, Bool.true_and, Bool.and_self, beq_self_eq_true, Nat.le_refl, Try.velem24, Try.vt33, Try.vzero33, dec_t, hg]
        refine vdraw (by kernel_rfl) (by kernel_rfl) ?_
        simp (config := { maxSteps := 2000000 }) (implicitDefEqProofs := false) (disch := first | omega | assumption | (simp only []; done) | fail) only [vop_load, vcallee_load, okKind_load, foot_load, vcallee_value, vcal_fn, ptrNo_ptr, strip_ptr, strip_agg, strip_fn, optV_none, ev_tmp, ev_func, put_some, at_mk, fits_some, ↓look_cons, ↓vlook_t, ↓vlook_f, guard_none, load_ptr, vld_agg, blk_zero, blk_succ, okc_nil, evG_eq, ↓vdr_cons, ↓dr1_some, ↓drG_true, ↓dr2_none, ↓dr2_some, ↓dr3_some, List.map_nil, List.length_cons, List.length_nil, List.map_cons, List.map_nil, List.nil_append, List.append_nil, List.take_succ_cons, List.take_nil, List.drop_zero, Option.map_some, ↓reduceIte, Nat.reduceAdd, Nat.reduceLT, Nat.reduceBEq, Int.reduceLT, Int.reduceAdd, Int.reduceBEq, Nat.zero_add, true_and, Bool.true_and, beq_self_eq_true, Nat.le_refl, Try.vt33, dec_t]
        refine vdc_call (hv) rfl rfl ?_
        simp (config := { maxSteps := 2000000 }) (implicitDefEqProofs := false) (disch := first | omega | assumption | (simp only []; done) | fail) only [vop_move, vcallee_move, okKind_move, foot_move, vop_assign, vcallee_assign, vop_pick, vcallee_pick, okKind_pick, foot_pick, vop_unOp, vcallee_unOp, okKind_unOp, foot_unOp, vpick_bool, strip_pv, strip_tup, optV_none, ev_tmp, ev_const, ofConst_bool, put_some, at_mk, fits_some, ↓look_cons, ↓vlook_t, ↓vlook_f, guard_none, guard_some, vgof_bool, vgof_skip, ↓vrun_nil, ↓vdr_nil, ↓code_region, ↓code_seq, ↓code_ret, ↓onNormal_normal, ↓onNormal_ret, ↓onBlock_ret, frz_pv, frzHeap_zero, res_one, vres_tmp, un_not, okc_nil, okc_none, okc_other, evG_eq, ↓vrun_cons, ↓run1_some, ↓runG_true, ↓run2_none, ↓run3_some, ↓vdr_cons, ↓dr1_some, ↓drG_true, ↓drG_false, ↓dr2_none, ↓dr3_some, ↓drK_eq, ↓code_cond, ↓vtest_bool, ↓vbr_true, ↓vpost_ret, vfin_some, vfin2_some, at_hp, pickV_t, List.getElem?_cons_zero, List.getElem?_cons_succ, List.cons_append, List.nil_append, Option.map_some, Option.bind_some, Nat.reduceAdd, Nat.reduceLT, Nat.reduceBEq, Int.reduceLT, Int.reduceAdd, Int.reduceBEq, Nat.zero_add, and_self, Bool.not_true, Bool.not_false, Bool.and_self, b_beq_f, beq_self_eq_true, dec_t, Ret, DV.nums, o2]
  · have hall := s.all (by omega)
    have hsrt := sorted_of held hall
    have hmd := hmode hsrt
    simp (config := { maxSteps := 2000000 }) (implicitDefEqProofs := false) (disch := first | omega | assumption | (simp only []; done) | fail) only [vop_move, vcallee_move, vop_load, vcallee_load, vop_fieldAddr, vcallee_fieldAddr, vop_builtin, vcallee_builtin, strip_pv, strip_ptr, optV_none, ev_tmp, ev_const, ofConst_int, put_some, at_mk, fits_some, ↓look_cons, ↓vlook_t, ↓vlook_f, guard_none, ↓vrun_nil, ↓code_region, ↓code_seq, ↓code_block, ↓code_loop, ↓code_exit, ↓onNormal_normal, ↓onNormal_exit, ↓onBlock_exit, load_ptr, vld_one, blk_zero, faddr_ptr, vfap_some, len_sl, vlk_sl, bi_len, evG_eq, ↓vrun_cons, ↓run1_some, ↓runG_true, ↓run2_none, ↓run3_some, at_hp, List.map_nil, List.getElem?_cons_zero, List.getElem?_cons_succ, List.map_cons, List.map_nil, Option.map_some, ↓reduceIte, reduceCtorEq, Nat.reduceLT, Nat.reduceBEq, Int.reduceLT, Int.reduceBEq, Nat.zero_add, true_and, Bool.true_and, beq_self_eq_true, fz_len, Try.vt24, Try.vkind24, Try.vfield26x1, dec_t, dec_f]
    refine vloopW (fun s : Okay wait.length (Lk.chkW ⟨held, wait⟩) => ⟨83, 0, [(55, .int .i64 s.i), (54, .int .i64 wait.length), (53, .pv (.sl (fz encG wait))), (2, .bool false), (1, .ptr 0 0)], [⟨26, true, [.pv (.sl (fz encG held)), .pv (.sl (fz encG wait))]⟩]⟩) (fun s => wait.length - s.i) (Okay.start _ _) (.inl (by refine ⟨rfl, rfl, by simp, ?_, ?_, .inr ⟨?_, ?_⟩⟩ <;> (repeat' apply And.intro) <;> first | rfl | trivial | (intro _; first | rfl | apply cells_refs))) ?_
    intro s
    have hi := s.hi
    simp (config := { maxSteps := 2000000 }) (implicitDefEqProofs := false) (disch := first | omega | assumption | (simp only []; done) | fail) only [vop_binOp, vcallee_binOp, bin2_tmp, strip_pv, optV_none, ev_tmp, put_some, at_mk, fits_some, ↓look_cons, ↓vlook_t, ↓vlook_f, guard_none, ↓vrun_nil, ↓code_region, ↓code_seq, ↓onNormal_normal, bin_int, int_lss, evG_eq, ↓vrun_cons, ↓run1_some, ↓runG_true, ↓run2_none, ↓run3_some, ↓code_cond, ↓vtest_bool, Option.map_some, Nat.reduceLT, Nat.reduceBEq, Int.reduceLT, Int.reduceBEq, true_and, Bool.true_and, beq_self_eq_true, dec_t]
    refine vbr_split (fun hc => ?_) (fun hc => ?_) <;> simp only [decide_eq_true_eq, decide_eq_false_iff_not, Bool.or_eq_true, Bool.and_eq_true, Bool.or_eq_false_iff, Bool.and_eq_false_imp, Bool.not_eq_true', Bool.not_eq_false', beq_iff_eq, beq_eq_false_iff_ne, bne_iff_ne, bne_eq_false_iff_eq, ne_eq] at hc
    · have hlt : s.i < wait.length := by omega
      have hg := fzG_at wait s.i hlt
      have hd := getD_eq wait s.i hlt Gr0
      have hv := valid1_v wait[s.i]
      have hm2 := hmd wait[s.i].tx wait[s.i].pg wait[s.i].sl
      have hct := containsFG_v (wait.take s.i) (by rw [List.length_take]; omega) 43 [.ip [.lit (.int .i64 wait[s.i].tx), .lit (.int .i64 wait[s.i].pg), .lit (.int .i64 wait[s.i].sl), .lit (.int .i64 wait[s.i].md)]] rfl (fun x => decide (x.tx = wait[s.i].tx)) (fun x _ => valid1c_v _ x)
      unfold Gr.d at hv
      unfold Lk.d at hm2
      have htk : (fz encG wait).take s.i = fz encG (wait.take s.i) := fz_take encG wait s.i
      have hx : (fz encG wait)[0]?.map List.length = some 4 := fz_has encG wait (by omega)
      have hln : s.i ≤ (fz encG wait).length := by rw [fz_len]; omega
      have h00 : (0 : Nat) ≤ s.i := by omega
      simp (config := { maxSteps := 2000000 }) (implicitDefEqProofs := false) (disch := first | omega | assumption | (simp only [List.length_cons, List.length_nil, Nat.zero_add, Nat.reduceAdd]; done) | fail) only [vop_move, vcallee_move, vop_assign, vcallee_assign, vop_alloc, vcallee_alloc, vop_load, vcallee_load, vop_store, vcallee_store, vop_indexAddr, vcallee_indexAddr, strip_pv, strip_ptr, strip_ip, strip_agg, optV_none, ev_tmp, put_some, put_none, at_mk, fits_some, fits_none, ↓look_cons, ↓vlook_t, ↓vlook_f, guard_none, ↓vrun_nil, ↓code_skip, ↓code_region, ↓code_draw, ↓code_seq, ↓code_block, ↓onNormal_normal, load_ip, vldp_agg, store_ptr, vst_agg, blk_zero, blk_succ, set_zero, set_succ, alloc_eq, val1_some, allOne_nil, allOne_cons, one_pv, iaddr_sl, vias_some, evG_eq, ↓vrun_cons, ↓run1_some, ↓runG_true, ↓run2_none, ↓run3_some, at_hp, List.map_nil, V.splice, List.length_cons, List.length_nil, List.map_cons, List.map_nil, List.cons_append, List.nil_append, List.append_nil, List.take_succ_cons, List.take_zero, List.take_nil, List.drop_succ_cons, List.drop_nil, Option.map_some, ↓reduceIte, Nat.reduceAdd, Nat.reduceLT, Nat.reduceBEq, Int.reduceLT, Int.reduceAdd, Int.reduceBEq, Int.toNat_natCast, Nat.zero_add, true_and, and_self, Bool.true_and, Bool.and_self, beq_self_eq_true, Nat.le_refl, Try.velem24, Try.vt33, Try.vzero33, dec_t, hg]
      refine vspineT [[], [0], [0, 1], [0, 1, 2], [0, 1, 2, 3], [0, 1, 2, 3], [0, 1, 2, 3, 5], [0, 1, 2, 3], [0, 1, 2, 3, 7], [0, 1, 2, 3, 4, 5, 6, 7, 8], [0, 1, 2, 3], [0, 1, 2, 3, 10], [0, 1, 2, 3, 4, 5, 6, 7, 8, 9, 10, 11], [0, 1, 2, 3, 4, 5, 6, 7, 8, 9, 10, 11, 12], [0, 1, 2, 3, 4, 5, 6, 7, 8, 9, 10, 11, 12, 13], [0, 1, 2, 3, 4, 5, 6, 7, 8, 9, 10, 11, 12, 13, 14], [0, 1, 2, 3, 4, 5, 6, 7, 8, 9, 10, 11, 12, 13, 14, 15], [0, 1, 2, 3, 4, 5, 6, 7, 8, 9, 10, 11, 12, 13, 14], [0, 1, 2, 3, 4, 5, 6, 7, 8, 9, 10, 11, 12, 13, 14, 15, 16, 17], [0, 1, 2, 3, 4, 5, 6, 7, 8, 9, 10, 11, 12, 13, 14], [0, 1, 2, 3, 4, 5, 6, 7, 8, 9, 10, 11, 12, 13, 14, 15, 16, 17, 18, 19], [0, 1, 2, 3, 4, 5, 6, 7, 8, 9, 10, 11, 12, 13, 14, 15, 16, 17, 18, 19, 20]] [0] [⟨[], [], 1, [], [2, 3, 4, 5, 6, 7, 8, 10, 11]⟩, ⟨[], [], 9, [10, 11], [12, 13, 14, 15, 16, 17, 18, 19]⟩, ⟨[], [], 20, [], [21]⟩] (by kernel_rfl) (by kernel_rfl) (by kernel_rfl) ?_
      simp (config := { maxSteps := 2000000 }) (implicitDefEqProofs := false) (disch := first | omega | assumption | (simp only []; done) | fail) only [vop_load, vcallee_load, vcallee_value, vcal_fn, strip_ptr, strip_agg, strip_fn, optV_none, ev_tmp, ev_func, put_some, at_mk, fits_some, ↓look_cons, ↓vlook_t, ↓vlook_f, guard_none, ↓vrun_nil, load_ptr, vld_agg, blk_zero, blk_succ, evG_eq, ↓vrun_cons, ↓run1_some, ↓runG_true, ↓run2_none, ↓run2_some, ↓run3_some, at_hp, List.map_nil, List.getElem?_cons_zero, List.getElem?_cons_succ, List.length_cons, List.length_nil, List.map_cons, List.map_nil, List.nil_append, List.append_nil, List.take_succ_cons, List.take_nil, List.drop_zero, Option.map_some, ↓reduceIte, Nat.reduceAdd, Nat.reduceLT, Nat.reduceBEq, Int.reduceLT, Int.reduceAdd, Int.reduceBEq, Nat.zero_add, true_and, Bool.true_and, beq_self_eq_true, Nat.le_refl, ↓vsp_cons, vspC_true, vspR_eq, pick_nil, pick_cons, pickO_some, creas_nil, Try.vt33, dec_t]
      refine vc_pure hv rfl ?_
      by_cases o1 : wait[s.i].okB = true
      · by_cases o3 : wait[s.i].md ≤ modeS held wait[s.i].tx wait[s.i].pg wait[s.i].sl
        · have hk : Lk.chkW ⟨held, wait⟩ s.i = false := by rw [Lk.chkW, hd]; simp [show ¬ modeS held wait[s.i].tx wait[s.i].pg wait[s.i].sl < wait[s.i].md by omega]
          have e : Lk.okB ⟨held, wait⟩ = false := by rw [Lk.okB, all_not (n := wait.length) hlt hk]; simp
          rw [e]
          simp (config := { maxSteps := 2000000 }) (implicitDefEqProofs := false) (disch := first | omega | assumption | (simp only []; done) | fail) only [vop_move, vcallee_move, vop_load, vcallee_load, vop_unOp, vcallee_unOp, vop_fieldAddr, vcallee_fieldAddr, vcallee_value, vcal_fn, strip_pv, strip_ptr, strip_fn, strip_opt, vstr_true, optV_none, optV_some, ev_tmp, ev_func, put_some, at_mk, fits_some, ↓look_cons, ↓vlook_t, ↓vlook_f, guard_none, guard_some, vgof_bool, ↓vrun_nil, load_ptr, vld_one, vld_agg, blk_zero, blk_succ, faddr_ptr, vfap_some, un_not, evG_eq, ↓vrun_cons, ↓run1_some, ↓runG_true, ↓run2_none, ↓run2_some, ↓run3_some, ↓runK_eq, at_hp, List.map_nil, List.getElem?_cons_zero, List.getElem?_cons_succ, List.length_cons, List.length_nil, List.map_cons, List.map_nil, List.nil_append, List.append_nil, List.take_succ_cons, List.take_zero, List.take_nil, List.drop_succ_cons, List.drop_zero, Option.map_some, Option.bind_some, ↓reduceIte, reduceCtorEq, Nat.reduceAdd, Nat.reduceLT, Nat.reduceLeDiff, Nat.reduceBEq, Int.reduceLT, Int.reduceAdd, Int.reduceBEq, Nat.zero_add, Nat.add_zero, true_and, or_true, Bool.not_true, Bool.or_true, Bool.true_and, beq_self_eq_true, Nat.le_refl, ↓vsp_cons, ↓vspK_eq, vspC_true, vspR_eq, pick_nil, pick_cons, pickO_some, creas_nil, agree_nil, Try.vt3, Try.vt26, Try.vt28, Try.vfield33x0, Try.vfield33x1, Try.vfield33x2, dec_t, o1]
          refine vc_pure (hm2) rfl ?_
          simp (config := { maxSteps := 2000000 }) (implicitDefEqProofs := false) (disch := first | omega | assumption | (simp only []; done) | fail) only [vop_move, vcallee_move, vop_assign, vcallee_assign, vop_pick, vcallee_pick, vop_binOp, vcallee_binOp, foot_fieldAddr, foot_load, ptrNo_ptr, bin2_tmp, vpick_bool, strip_pv, strip_tup, strip_opt, vstr_true, optV_none, optV_some, pickV_bool, ev_tmp, ev_const, ofConst_bool, put_some, at_mk, fits_some, ↓look_cons, ↓vlook_t, ↓vlook_f, guard_none, guard_some, vgof_bool, ↓vrun_nil, ↓code_region, ↓code_seq, ↓code_ret, ↓onNormal_normal, ↓onNormal_ret, ↓onBlock_ret, frz_pv, frzHeap_zero, res_one, vres_tmp, bin_int, int_geq, evG_eq, ↓vrun_cons, ↓run1_some, ↓runG_true, ↓runG_false, ↓run2_none, ↓run3_some, ↓runK_eq, ↓code_cond, ↓vtest_bool, ↓vbr_true, ↓vpost_ret, vfin_some, vfin2_some, at_hp, pickV_t, List.getElem?_cons_zero, List.getElem?_cons_succ, List.nil_append, Option.map_some, Option.bind_some, Nat.reduceLT, Nat.reduceBEq, Int.reduceLT, Int.reduceBEq, and_self, or_true, Bool.not_true, Bool.not_false, Bool.or_true, Bool.and_self, b_beq_f, Bool.cond_self, beq_self_eq_true, ↓vsp_nil, ↓vsp_cons, ↓vspK_eq, vspC_true, vspR_eq, pick_nil, pick_cons, pickO_some, creas_nil, agree_nil, agree_cons, agree1_some, sameAt_nil, sameAt_cons, dec_t, Ret, DV.nums, o3]
          try simp only []
        · have o3' : modeS held wait[s.i].tx wait[s.i].pg wait[s.i].sl < wait[s.i].md := by omega
          have hk : Lk.chkW ⟨held, wait⟩ s.i = !((wait.take s.i).any fun x => decide (x.tx = wait[s.i].tx)) := by rw [Lk.chkW, hd, o1]; simp [o3']
          simp (config := { maxSteps := 2000000 }) (implicitDefEqProofs := false) (disch := first | omega | assumption | (simp only []; done) | fail) only [vop_move, vcallee_move, vop_load, vcallee_load, vop_unOp, vcallee_unOp, vop_fieldAddr, vcallee_fieldAddr, vcallee_value, vcal_fn, strip_pv, strip_ptr, strip_fn, strip_opt, vstr_true, optV_none, optV_some, ev_tmp, ev_func, put_some, at_mk, fits_some, ↓look_cons, ↓vlook_t, ↓vlook_f, guard_none, guard_some, vgof_bool, ↓vrun_nil, load_ptr, vld_one, vld_agg, blk_zero, blk_succ, faddr_ptr, vfap_some, un_not, evG_eq, ↓vrun_cons, ↓run1_some, ↓runG_true, ↓run2_none, ↓run2_some, ↓run3_some, ↓runK_eq, at_hp, List.map_nil, List.getElem?_cons_zero, List.getElem?_cons_succ, List.length_cons, List.length_nil, List.map_cons, List.map_nil, List.nil_append, List.append_nil, List.take_succ_cons, List.take_zero, List.take_nil, List.drop_succ_cons, List.drop_zero, Option.map_some, Option.bind_some, ↓reduceIte, reduceCtorEq, Nat.reduceAdd, Nat.reduceLT, Nat.reduceLeDiff, Nat.reduceBEq, Int.reduceLT, Int.reduceAdd, Int.reduceBEq, Nat.zero_add, Nat.add_zero, true_and, or_true, Bool.not_true, Bool.or_true, Bool.true_and, beq_self_eq_true, Nat.le_refl, ↓vsp_cons, ↓vspK_eq, vspC_true, vspR_eq, pick_nil, pick_cons, pickO_some, creas_nil, agree_nil, Try.vt3, Try.vt26, Try.vt28, Try.vfield33x0, Try.vfield33x1, Try.vfield33x2, dec_t, o1]
          refine vc_pure (hm2) rfl ?_
          simp (config := { maxSteps := 2000000 }) (implicitDefEqProofs := false) (disch := first | omega | assumption | (simp only []; done) | fail) only [vop_move, vcallee_move, vop_pick, vcallee_pick, vop_load, vcallee_load, vop_binOp, vcallee_binOp, vop_makeFunc, vcallee_makeFunc, vop_slice, vcallee_slice, vop_fieldAddr, vcallee_fieldAddr, foot_fieldAddr, foot_load, vcallee_value, vcal_fn, ptrNo_ptr, bin2_tmp, vpick_bool, strip_pv, strip_ptr, strip_fn, strip_opt, vstr_true, optV_none, optV_some, pickV_bool, ev_tmp, ev_const, ev_func, ofConst_bool, put_some, at_mk, fits_some, ↓look_cons, ↓vlook_t, ↓vlook_f, guard_none, guard_some, vgof_bool, ↓vrun_nil, load_ptr, vld_one, blk_zero, faddr_ptr, vfap_some, bin_int, int_geq, evG_eq, ↓vrun_cons, ↓run1_some, ↓runG_true, ↓run2_none, ↓run2_some, ↓run3_some, ↓runK_eq, at_hp, slice_pv, slice_sl_hi, vslk_some, List.map_nil, List.getElem?_cons_zero, List.getElem?_cons_succ, List.map_cons, List.map_nil, List.nil_append, List.append_nil, List.drop_zero, Option.map_some, Option.map_none, Option.bind_some, ↓reduceIte, reduceCtorEq, Nat.reduceLT, Nat.reduceBEq, Int.reduceLT, Int.reduceBEq, Int.toNat_natCast, Nat.zero_add, decide_false, true_and, and_self, or_true, Bool.not_true, Bool.not_false, Bool.or_true, Bool.true_and, Bool.and_self, cond_false, beq_self_eq_true, ↓vsp_cons, ↓vspK_eq, vspC_true, vspR_eq, pick_nil, pick_cons, pickO_some, creas_nil, agree_nil, agree_cons, agree1_some, sameAt_nil, sameAt_cons, Try.vt24, Try.velem24, Try.vfield26x1, dec_t, o3, htk]
          refine vc_lendA (hct) (allSome2 rfl (frzA_fn1 rfl)) rfl ?_
          simp (config := { maxSteps := 2000000 }) (implicitDefEqProofs := false) (disch := first | omega | assumption | (simp only []; done) | fail) only [vop_pick, vcallee_pick, vpick_bool, strip_pv, strip_opt, vstr_true, optV_none, optV_some, pickV_bool, ev_tmp, ev_const, ofConst_bool, put_some, at_mk, fits_some, ↓look_cons, ↓vlook_t, ↓vlook_f, guard_none, ↓vrun_nil, ↓onNormal_normal, evG_eq, ↓vrun_cons, ↓run1_some, ↓runG_true, ↓run2_none, ↓run3_some, ↓runK_eq, ↓code_cond, ↓vtest_bool, at_hp, List.getElem?_cons_zero, List.getElem?_cons_succ, Nat.reduceLT, Nat.reduceBEq, Int.reduceLT, Int.reduceBEq, true_and, or_true, Bool.not_true, Bool.not_false, Bool.or_true, Bool.true_and, cond_false, beq_self_eq_true, ↓vsp_nil, ↓vspK_eq, vspC_true, vspR_eq, pick_nil, pick_cons, pickO_some, agree_nil, dec_t]
          by_cases o4 : ((wait.take s.i).any fun x => decide (x.tx = wait[s.i].tx)) = true
          · have hk2 : Lk.chkW ⟨held, wait⟩ s.i = false := by rw [hk, o4]; rfl
            have e : Lk.okB ⟨held, wait⟩ = false := by rw [Lk.okB, all_not (n := wait.length) hlt hk2]; simp
            rw [e]
            simp (config := { maxSteps := 2000000 }) (implicitDefEqProofs := false) (disch := first | omega | assumption | (simp only []; done) | fail) only [vop_assign, vcallee_assign, strip_pv, optV_none, ev_const, ofConst_bool, put_some, at_mk, fits_some, ↓look_cons, ↓vlook_t, guard_none, ↓vrun_nil, ↓code_region, ↓code_seq, ↓code_ret, ↓onNormal_normal, ↓onNormal_ret, ↓onBlock_ret, frz_pv, frzHeap_zero, res_one, vres_tmp, evG_eq, ↓vrun_cons, ↓run1_some, ↓runG_true, ↓run2_none, ↓run3_some, ↓vbr_true, ↓vpost_ret, vfin_some, vfin2_some, at_hp, Nat.reduceLT, Int.reduceLT, and_self, Bool.and_self, beq_self_eq_true, dec_t, Ret, DV.nums, o4]
          · have o5 : ((wait.take s.i).any fun x => decide (x.tx = wait[s.i].tx)) = false := by simpa using o4
            have hk2 : Lk.chkW ⟨held, wait⟩ s.i = true := by rw [hk, o5]; rfl
            simp (config := { maxSteps := 2000000 }) (implicitDefEqProofs := false) (disch := first | omega | assumption | (simp only []; done) | fail) only [vop_move, vcallee_move, vop_binOp, vcallee_binOp, bin2_int, strip_pv, optV_none, ev_tmp, ev_const, ofConst_int, put_some, at_mk, fits_some, ↓look_cons, ↓vlook_t, ↓vlook_f, guard_none, ↓vrun_nil, ↓code_skip, ↓code_region, ↓onNormal_normal, ↓onBlock_normal, bin_int, int_add, evG_eq, ↓vrun_cons, ↓run1_some, ↓runG_true, ↓run2_none, ↓run3_some, ↓vbr_false, at_hp, Option.map_some, Nat.reduceLT, Nat.reduceBEq, Int.reduceLT, Int.reduceBEq, true_and, Bool.true_and, beq_self_eq_true, wrap_i64_in, dec_t, o5]
            exact ⟨s.next hlt hk2, by show wait.length - (s.i + 1) < wait.length - s.i; omega, (by refine gc_of (keep := [0]) rfl rfl rfl (by decide) ?_ ?_ <;> (repeat' apply And.intro) <;> first | trivial | rfl | exact ⟨_, rfl, rfl, rfl, .inl ⟨rfl, rfl⟩⟩ | exact ⟨_, rfl, rfl, rfl, .inl ⟨cells_nums _ _ _, rfl⟩⟩ | exact ⟨_, rfl, rfl, rfl, .inl ⟨pvs_nums _ _, rfl⟩⟩ | exact ⟨_, rfl, rfl, rfl, .inr ⟨rfl, rfl⟩⟩)⟩
      · have o2 : wait[s.i].okB = false := by simpa using o1
        have hk : Lk.chkW ⟨held, wait⟩ s.i = false := by rw [Lk.chkW, hd, o2]; rfl
        have e : Lk.okB ⟨held, wait⟩ = false := by rw [Lk.okB, all_not (n := wait.length) hlt hk]; simp
        rw [e]
        simp (config := { maxSteps := 2000000 }) (implicitDefEqProofs := false) (disch := first | omega | assumption | (simp only []; done) | fail) only [vop_move, vcallee_move, vop_assign, vcallee_assign, vop_pick, vcallee_pick, vop_unOp, vcallee_unOp, foot_fieldAddr, foot_load, vpick_bool, strip_pv, strip_tup, optV_none, ev_tmp, ev_const, ofConst_bool, put_some, at_mk, fits_some, ↓look_cons, ↓vlook_t, ↓vlook_f, guard_none, guard_some, vgof_bool, ↓vrun_nil, ↓code_region, ↓code_seq, ↓code_ret, ↓onNormal_normal, ↓onNormal_ret, ↓onBlock_ret, frz_pv, frzHeap_zero, res_one, vres_tmp, un_not, evG_eq, ↓vrun_cons, ↓run1_some, ↓runG_true, ↓runG_false, ↓run2_none, ↓run3_some, ↓runK_eq, ↓code_cond, ↓vtest_bool, ↓vbr_true, ↓vpost_ret, vfin_some, vfin2_some, at_hp, pickV_t, ptrNo_tup, List.getElem?_cons_zero, List.getElem?_cons_succ, List.nil_append, Option.map_some, Option.bind_some, Nat.reduceLT, Nat.reduceBEq, Int.reduceLT, Int.reduceBEq, and_self, Bool.not_true, Bool.not_false, Bool.and_self, b_beq_f, beq_self_eq_true, ↓vsp_nil, ↓vsp_cons, ↓vspK_eq, vspC_true, vspR_eq, pick_nil, pick_cons, pickO_some, creas_nil, agree_nil, agree_cons, agree1_some, sameAt_nil, dec_t, Ret, DV.nums, o2]
        try simp only []
        try simp only []
    · have hall2 := s.all (by omega)
      have e : Lk.okB ⟨held, wait⟩ = true := by
        rw [Lk.okB]
        simp only [hall, hall2, Bool.and_true, decide_eq_true_eq]
        omega
      rw [e]
      simp (config := { maxSteps := 2000000 }) (implicitDefEqProofs := false) (disch := first | omega | assumption | (simp only []; done) | fail) only [vop_assign, vcallee_assign, strip_pv, optV_none, ev_const, ofConst_bool, put_some, at_mk, fits_some, ↓look_cons, ↓vlook_t, guard_none, ↓vrun_nil, ↓code_region, ↓code_seq, ↓code_exit, ↓code_ret, ↓onNormal_normal, ↓onNormal_exit, ↓onBlock_exit, frz_pv, frzHeap_zero, res_one, vres_tmp, evG_eq, ↓vrun_cons, ↓run1_some, ↓runG_true, ↓run2_none, ↓run3_some, ↓vpost_ret, vfin_some, vfin2_some, at_hp, ↓reduceIte, Nat.reduceLT, Int.reduceLT, and_self, Bool.and_self, beq_self_eq_true, dec_t, dec_f, Ret, DV.nums]
end Go.Proofs.Ytjiaadkncpajnaa

namespace Go.Proofs.Ytjiaadkncpajnaa
open Go.V Go
set_option maxRecDepth 100000
set_option linter.unusedSimpArgs false

theorem cellsG_len (l : List Gr) : (cells encG l).length = l.length * 4 := cells_len encG l
theorem del_up (l : List Gr) (i : Nat) (h : i < l.length) : splice (cells encG l) (i * 4) (((cells encG l).drop ((i + 1) * 4)).take ((l.length - (i + 1)) * 4)) = cells encG (l.take i ++ l.drop (i + 1) ++ l.drop (l.length - 1)) := by
  have e1 : (cells encG l).drop ((i + 1) * 4) = cells encG (l.drop (i + 1)) := by have := cells_drop encG l (i + 1); simpa [encG] using this
  have e2 : (cells encG (l.drop (i + 1))).take ((l.length - (i + 1)) * 4) = cells encG (l.drop (i + 1)) := cells_all encG _ _ (by rw [List.length_drop]; rfl)
  have e3 := splice_cells encG l (l.drop (i + 1)) i
  rw [List.length_drop, show i + (l.length - (i + 1)) = l.length - 1 by omega] at e3
  rw [e1, e2]
  exact e3
theorem del_up2 (l : List Gr) (i : Nat) (h : i < l.length) : splice (cells encG l) (i * 4) ((cells encG l).drop ((i + 1) * 4)) = cells encG (l.take i ++ l.drop (i + 1) ++ l.drop (l.length - 1)) := by
  have e1 := del_up l i h
  have e2 : ((cells encG l).drop ((i + 1) * 4)).take ((l.length - (i + 1)) * 4) = (cells encG l).drop ((i + 1) * 4) := by rw [List.take_of_length_le]; rw [List.length_drop, cellsG_len]; omega
  rwa [e2] at e1
theorem del_len (l : List Gr) (i : Nat) (h : i < l.length) : (l.take i ++ l.drop (i + 1)).length = l.length - 1 := by rw [List.length_append, List.length_take, List.length_drop]; omega
theorem del_clr (l : List Gr) (i : Nat) (h : i < l.length) : splice (cells encG (l.take i ++ l.drop (i + 1) ++ l.drop (l.length - 1))) ((l.length - 1) * 4) [.pv (.lit (.int .i64 0)), .pv (.lit (.int .i64 0)), .pv (.lit (.int .i64 0)), .pv (.lit (.int .i64 0))] = cells encG (l.take i ++ l.drop (i + 1) ++ [Gr0]) := by
  have hl := del_len l i h
  have hc : (l.drop (l.length - 1)).length = 1 := by rw [List.length_drop]; omega
  generalize l.take i ++ l.drop (i + 1) = A at *
  generalize l.drop (l.length - 1) = C at *
  have e3 := splice_cells encG (A ++ C) [Gr0] (l.length - 1)
  rw [← hl, List.take_left' rfl, List.drop_of_length_le (by simp [hc]), List.append_nil] at e3
  rw [← hl]
  exact e3
theorem del_all (l : List Gr) (i : Nat) (h : i < l.length) : (cells encG (l.take i ++ l.drop (i + 1) ++ l.drop (l.length - 1))).length = l.length * 4 := by
  rw [cellsG_len]
  simp only [List.length_append, List.length_take, List.length_drop]
  omega
set_option maxHeartbeats 2000000 in
theorem deleteG_v (l : List Gr) (i : Nat) (hi : i < l.length) (hl : l.length ≤ 1000000) :
    VCalls Try.prog 63 [.own 0 4 0 l.length, .int .i64 i, .int .i64 ((i : Int) + 1)] [⟨33, true, cells encG l⟩]
      (NewSl noK [⟨33, true, cells encG l⟩] 4 (l.length - 1) 33 (cells encG (l.take i ++ l.drop (i + 1)))) := by
  refine VCalls.newSl_cut (t := cells encG [Gr0]) ?_
  refine VCalls.newSl ?_
  refine VCalls.room (by omega) fun cap hcap => ?_
  refine vcalls_keep (fn := Try.f63) Try.func63 rfl (by kernel_rfl) (by simp [Try.f63]) ?_
  have hcl := cellsG_len l
  have ei : ((i : Int) + 1).toNat = i + 1 := by omega
  have hic : i + 1 ≤ cap := by omega
  have hic2 : i ≤ cap := by omega
  have hic3 : i + 1 ≤ l.length := by omega
  simp (config := { maxSteps := 2000000 }) (implicitDefEqProofs := false) (disch := first | omega | assumption | (simp only []; done) | fail) only [vop_move, vcallee_move, vop_assign, vcallee_assign, vop_binOp, vcallee_binOp, vop_slice, vcallee_slice, vop_builtin, vcallee_builtin, bin2_tmp, strip_pv, optV_none, ev_tmp, ev_const, ofConst_slice, put_some, at_mk, fits_some, ↓look_cons, ↓vlook_t, ↓vlook_f, guard_none, ↓vrun_nil, ↓code_skip, ↓code_region, ↓code_draw, ↓code_seq, ↓onNormal_normal, strip_ownc, bin_int, int_eql, vlk_sl, bi_len, len_ownc, slice_ownc, slice_ownc_3, vslc3_some, enum_nil, enum_cons, evG_eq, ↓vrun_cons, ↓run1_some, ↓runG_true, ↓run2_none, ↓run3_some, ↓code_cond, ↓vtest_bool, ↓vbr_false, at_hp, List.map_nil, List.toList_toArray, List.length_cons, List.length_nil, List.map_cons, List.map_nil, Option.map_some, Nat.reduceAdd, Nat.reduceLT, Nat.reduceBEq, Int.reduceLT, Int.reduceAdd, Int.reduceBEq, Int.toNat_natCast, Nat.zero_add, true_and, Bool.true_and, beq_self_eq_true, Try.velem24, Try.vkind24, dec_t, int_beq_f, Try.f63, ei]
  refine vspine [0, 1, 2, 3, 4, 5] [⟨[], [], 6, [0, 1, 3, 4], []⟩, ⟨[], [], 7, [], []⟩] (by kernel_rfl) (by kernel_rfl) ?_
  have hA : i + (l.length - (i + 1)) = l.length - 1 := by omega
  have hB : (l.length - 1) * 32 ≤ 140737488355328 := by omega
  have hC : i * 4 ≤ l.length * 4 := by omega
  have hD : l.length - 1 ≤ cap := by omega
  have hE : (l.length - (i + 1)) * 4 ≤ l.length * 4 - (i + 1) * 4 := by omega
  have hF : (i + 1) * 4 + (l.length - (i + 1)) * 4 ≤ l.length * 4 := by omega
  have hG : l.length - (l.length - 1) = 1 := by omega
  have hH : (l.length - 1) * 4 + 1 * 4 ≤ l.length * 4 := by omega
  have hH' : (l.length - 1) * 4 + 4 ≤ l.length * 4 := by omega
  have hI := del_clr l i hi
  have hJ := del_all l i hi
  have hup := del_up l i hi
  have hup2 := del_up2 l i hi
  have hdl := del_len l i hi
  simp (config := { maxSteps := 2000000 }) (implicitDefEqProofs := false) (disch := first | omega | assumption | (simp only []; done) | fail) only [vop_move, vcallee_move, foot_move, vop_assign, vcallee_assign, vop_slice, vcallee_slice, vop_builtin, vcallee_builtin, vcl2_some, vcl3_some, bi_clear, cl2_ownc, strip_pv, optV_none, ev_tmp, put_some, put_none, at_mk, fits_some, fits_none, ↓look_cons, ↓vlook_t, ↓vlook_f, guard_none, ↓vrun_nil, ↓code_region, ↓code_seq, ↓code_ret, ↓onNormal_normal, strip_ownc, res_one, vres_tmp, blk_zero, set_zero, allOne_nil, allOne_cons, one_pv, vlk_sl, bi_len, bi_append, ap2_cc, len_ownc, slice_ownc, slice_ownc_hi, slice_ownc_lo, slice_ownc_lohi, vslc0_some, vslc_some, evG_eq, ↓vrun_cons, ↓run1_some, ↓runG_true, ↓run2_none, ↓run3_some, ↓keep_ret, vfinK_some, at_hp, List.map_nil, V.mk, vappendC, srcL, List.getElem?_cons_zero, List.getElem?_cons_succ, List.length_cons, List.length_nil, List.map_cons, List.map_nil, List.nil_append, List.append_nil, Option.map_some, Option.map_none, ↓reduceIte, Nat.reduceAdd, Nat.reduceLT, Nat.reduceBEq, Int.reduceLT, Int.reduceAdd, Int.reduceBEq, Int.toNat_natCast, Nat.zero_add, Nat.one_mul, true_and, and_self, Bool.true_and, Bool.and_self, beq_self_eq_true, ↓vsp_nil, ↓vsp_cons, ↓vspK_eq, vspC_true, vspR_eq, pick_nil, pick_cons, pickO_some, creas_nil, agree_nil, agree_cons, agree1_some, sameAt_nil, Try.velem24, Try.notInt24, Try.vkind24, Try.vzero33, Try.bytes33, dec_t, ei, hcl, hA, hB, hC, hD, hE, hup, hG, hH, hI, hJ, List.length_drop]
  exact ⟨by simp, .inr ⟨0, .inr ⟨cap, by omega, rfl⟩, by simp, by rw [← cells_app]; rfl, by rw [← cells_app]; exact cells_nums _ _ _⟩⟩
end Go.Proofs.Ytjiaadkncpajnaa

namespace Go.Proofs.Ytjiaadkncpajnaa
open Go.V Go
set_option maxRecDepth 100000
set_option linter.unusedSimpArgs false

/-- What is left when those with p are taken out. -/
def keepL {α : Type} (l : List α) (p : α → Bool) : List α := l.filter fun x => !p x
/-- Those that are left of the first j stand in front. -/
structure DF {α : Type} (l : List α) (p : α → Bool) where
  j : Nat
  hj : j ≤ l.length
  cur : List α
  hl : cur.length = l.length
  h1 : cur.take (keepL (l.take j) p).length = keepL (l.take j) p
  h2 : cur.drop j = l.drop j
  h3 : (keepL (l.take j) p).length < j
def DF.i {α : Type} {l : List α} {p : α → Bool} (s : DF l p) : Nat := (keepL (l.take s.j) p).length
theorem keepL_take_succ {α : Type} (l : List α) (p : α → Bool) (j : Nat) (h : j < l.length) : keepL (l.take (j + 1)) p = keepL (l.take j) p ++ (if p l[j] = true then [] else [l[j]]) := by
  rw [List.take_succ_eq_append_getElem h, keepL, List.filter_append]
  cases hp : p l[j] <;> simp [keepL, hp]
theorem keepL_none {α : Type} (l : List α) (p : α → Bool) (h : ∀ x ∈ l, ¬ p x = true) : keepL l p = l := by
  rw [keepL, List.filter_eq_self]; intro x hx; simpa using h x hx
def DF.start {α : Type} (l : List α) (p : α → Bool) (i : Nat) (h : i < l.length) (hp : p l[i] = true) (no : ∀ x ∈ l.take i, ¬ p x = true) : DF l p :=
  have e : keepL (l.take (i + 1)) p = l.take i := by rw [keepL_take_succ l p i h, if_pos hp, List.append_nil, keepL_none _ p no]
  have el : (l.take i).length = i := by rw [List.length_take]; omega
  ⟨i + 1, h, l, rfl, by rw [e, el], rfl, by rw [e, el]; omega⟩
theorem DF.start_i {α : Type} (l : List α) (p : α → Bool) (i : Nat) (h : i < l.length) (hp : p l[i] = true) (no : ∀ x ∈ l.take i, ¬ p x = true) : (DF.start l p i h hp no).i = i := by
  show (keepL (l.take (i + 1)) p).length = i
  rw [keepL_take_succ l p i h, if_pos hp, List.append_nil, keepL_none _ p no, List.length_take]; omega
theorem DF.get {α : Type} {l : List α} {p : α → Bool} (s : DF l p) (h : s.j < l.length) (d : α) : s.cur.getD s.j d = l[s.j] := by
  have := congrArg (fun x => x[0]?) s.h2
  simp only [List.getElem?_drop, Nat.add_zero] at this
  rw [List.getD_eq_getElem?_getD, this, List.getElem?_eq_getElem h]; rfl
/-- One is taken out. -/
def DF.out {α : Type} {l : List α} {p : α → Bool} (s : DF l p) (h : s.j < l.length) (hp : p l[s.j] = true) : DF l p :=
  have e : keepL (l.take (s.j + 1)) p = keepL (l.take s.j) p := by rw [keepL_take_succ l p s.j h, if_pos hp, List.append_nil]
  ⟨s.j + 1, h, s.cur, s.hl, by rw [e]; exact s.h1, by
    have := congrArg (List.drop 1) s.h2
    rwa [List.drop_drop, List.drop_drop] at this, by rw [e]; have := s.h3; omega⟩
theorem DF.out_i {α : Type} {l : List α} {p : α → Bool} (s : DF l p) (h : s.j < l.length) (hp : p l[s.j] = true) : (s.out h hp).i = s.i := by
  show (keepL (l.take (s.j + 1)) p).length = _
  rw [keepL_take_succ l p s.j h, if_pos hp, List.append_nil]; rfl
/-- One stays. -/
def DF.stay {α : Type} {l : List α} {p : α → Bool} (s : DF l p) (h : s.j < l.length) (hp : ¬ p l[s.j] = true) : DF l p :=
  have e : keepL (l.take (s.j + 1)) p = keepL (l.take s.j) p ++ [l[s.j]] := by rw [keepL_take_succ l p s.j h, if_neg hp]
  have hi : s.i < s.j := s.h3
  have hil : s.i < s.cur.length := by rw [s.hl]; have := s.hj; omega
  ⟨s.j + 1, h, s.cur.set s.i l[s.j], by rw [List.length_set]; exact s.hl, by
    rw [e, List.length_append, List.length_singleton]
    show (s.cur.set s.i l[s.j]).take (s.i + 1) = _
    rw [List.take_succ_eq_append_getElem (by rw [List.length_set]; exact hil), List.getElem_set_self, List.take_set_of_le (Nat.le_refl _)]
    congr 1
    exact s.h1, by
    rw [List.drop_set_of_lt (by omega)]
    have := congrArg (List.drop 1) s.h2
    rwa [List.drop_drop, List.drop_drop] at this, by
    rw [e, List.length_append, List.length_singleton]
    have : (keepL (l.take s.j) p).length = s.i := rfl
    omega⟩
theorem DF.stay_i {α : Type} {l : List α} {p : α → Bool} (s : DF l p) (h : s.j < l.length) (hp : ¬ p l[s.j] = true) : (s.stay h hp).i = s.i + 1 := by
  show (keepL (l.take (s.j + 1)) p).length = _
  rw [keepL_take_succ l p s.j h, if_neg hp, List.length_append]; rfl

theorem keepL_le {α : Type} (l : List α) (p : α → Bool) : (keepL l p).length ≤ l.length := List.length_filter_le _ _


theorem G_set (l : List Gr) (i : Nat) (x : Gr) (h : i < l.length) : splice (cells encG l) (i * 4) [.pv (.lit (.int .i64 x.tx)), .pv (.lit (.int .i64 x.pg)), .pv (.lit (.int .i64 x.sl)), .pv (.lit (.int .i64 x.md))] = cells encG (l.set i x) := by
  have := splice_cells encG l [x] i
  rw [List.set_eq_take_append_cons_drop, if_pos h]
  rw [show l.take i ++ x :: l.drop (i + 1) = l.take i ++ [x] ++ l.drop (i + [x].length) by simp]
  exact this
theorem G_clear (l : List Gr) (i n : Nat) (h : i + n = l.length) : splice (cells encG l) (i * 4) (mk [.pv (.lit (.int .i64 0)), .pv (.lit (.int .i64 0)), .pv (.lit (.int .i64 0)), .pv (.lit (.int .i64 0))] n) = cells encG (l.take i) ++ cells encG (List.replicate n Gr0) := by
  have e2 : mk [.pv (.lit (.int .i64 0)), .pv (.lit (.int .i64 0)), .pv (.lit (.int .i64 0)), .pv (.lit (.int .i64 0))] n = cells encG (List.replicate n Gr0) := mk_cells encG Gr0 n
  have e3 := splice_cells encG l (List.replicate n Gr0) i
  rw [List.length_replicate, List.drop_of_length_le (by omega), List.append_nil, cells_app] at e3
  rw [e2]
  exact e3

set_option maxHeartbeats 1000000 in
theorem deleteFG_v (l : List Gr) (hl : l.length ≤ 1000000) (g : FuncId) (caps : List DV) (hc : DV.nums.go (fun _ => false) caps = true) (hcf : ∀ hp, allSome (caps.map (frzB hp)) = some caps) (p : Gr → Bool) (hf : ∀ x ∈ l, VCalls Try.prog g (.agg [.int .i64 x.tx, .int .i64 x.pg, .int .i64 x.sl, .int .i64 x.md] :: caps) [] (Ret (.bool (p x)))) :
    VCalls Try.prog 64 [.own 0 4 0 l.length, .fn (.func g) [] caps] [⟨33, true, cells encG l⟩]
      (NewSl noK [⟨33, true, cells encG l⟩] 4 (keepL l p).length 33 (cells encG (keepL l p))) := by
  have hfn : ∀ {q}, (DV.fn (.func g) [] caps).nums q = true := fun {q} => nums_mono q _ (by simpa [DV.nums, DV.nums.go] using hc)
  have hfr : ∀ {σ}, (DV.fn (.func g) [] caps).ren σ = DV.fn (.func g) [] caps := fun {σ} => ren_id σ _ (by simpa [DV.nums, DV.nums.go] using hc)
  refine VCalls.newSl_cut (t := cells encG (List.replicate (l.length - (keepL l p).length) Gr0)) ?_
  refine VCalls.newSl ?_
  have fin : ∀ (r : DV) (h' : Heap), r = .own 0 4 0 (keepL l p).length → (∃ rest, h' = ⟨33, true, cells encG (keepL l p) ++ cells encG (List.replicate (l.length - (keepL l p).length) Gr0)⟩ :: rest) → SomeSl noK [⟨33, true, cells encG l⟩] 4 (keepL l p).length 33 (cells encG (keepL l p) ++ cells encG (List.replicate (l.length - (keepL l p).length) Gr0)) r h' := by
    rintro r h' rfl ⟨rest, rfl⟩
    exact ⟨by simp, .inr ⟨0, .inl rfl, by simp, rfl, by rw [← cells_app]; exact cells_nums _ _ _⟩⟩
  refine vcalls_keep (fn := Try.f64) Try.func64 rfl (by kernel_rfl) (by simp [Try.f64]) ?_
  simp (config := { maxSteps := 2000000 }) (implicitDefEqProofs := false) (disch := first | omega | assumption | (simp only []; done) | fail) only [vop_move, vcallee_move, vop_assign, vcallee_assign, vcallee_value, vcal_fn, strip_pv, strip_own, strip_fn, optV_none, ev_tmp, ev_const, ev_func, ofConst_slice, put_some, at_mk, fits_some, ↓look_cons, ↓vlook_t, ↓vlook_f, guard_none, ↓vrun_nil, ↓code_region, ↓code_seq, ↓onNormal_normal, enum_nil, enum_cons, evG_eq, ↓vrun_cons, ↓run1_some, ↓runG_true, ↓run2_none, ↓run2_some, ↓run3_some, at_hp, List.map_nil, List.toList_toArray, List.length_cons, List.length_nil, List.map_cons, List.map_nil, List.nil_append, List.append_nil, Nat.reduceAdd, Nat.reduceLT, Nat.reduceBEq, Int.reduceLT, Int.reduceNeg, Int.reduceAdd, Int.reduceBEq, Nat.zero_add, true_and, Bool.true_and, beq_self_eq_true, dec_t, Try.f64]
  refine vc_lendA (indexFG_v l hl g caps hc p hf) (allSome2 (frzA_own encG l rfl) (by rw [frzA_fn, hcf]; rfl)) rfl ?_
  simp (config := { maxSteps := 2000000 }) (implicitDefEqProofs := false) (disch := first | omega | assumption | (simp only []; done) | fail) only [vop_move, vcallee_move, vop_assign, vcallee_assign, vop_binOp, vcallee_binOp, bin2_int, strip_pv, optV_none, ev_tmp, ev_const, ofConst_int, put_some, at_mk, fits_some, ↓look_cons, ↓vlook_t, guard_none, ↓vrun_nil, ↓code_region, ↓code_seq, ↓onNormal_normal, bin_int, int_eql, evG_eq, ↓vrun_cons, ↓run1_some, ↓runG_true, ↓run2_none, ↓run3_some, ↓runK_eq, ↓code_cond, ↓vtest_bool, at_hp, Option.map_some, Nat.reduceLT, Int.reduceLT, Int.reduceNeg, true_and, Bool.true_and, beq_self_eq_true, dec_t]
  refine vbr_split (fun hx => ?_) (fun hx => ?_)
  · simp (config := { maxSteps := 2000000 }) (implicitDefEqProofs := false) (disch := first | omega | assumption | (simp only []; done) | fail) only [vop_move, vcallee_move, vop_assign, vcallee_assign, strip_own, optV_none, ev_tmp, put_some, at_mk, fits_some, ↓look_cons, ↓vlook_t, ↓vlook_f, guard_none, ↓vrun_nil, ↓code_region, ↓code_seq, ↓code_ret, ↓onNormal_normal, ↓onNormal_ret, res_one, vres_tmp, evG_eq, ↓vrun_cons, ↓run1_some, ↓runG_true, ↓run2_none, ↓run3_some, ↓keep_ret, vfinK_some, at_hp, Nat.reduceLT, Nat.reduceBEq, Int.reduceLT, Int.reduceNeg, Int.reduceBEq, true_and, Bool.true_and, beq_self_eq_true, dec_t]
    have hno : ∀ x ∈ l, ¬ p x = true := by
      intro x hm hp
      rw [idxP, if_pos (List.any_eq_true.2 ⟨x, hm, hp⟩)] at hx
      simp at hx
    have hk := keepL_none l p hno
    refine fin _ _ (by rw [hk]) ⟨[], by rw [hk, Nat.sub_self]; simp [cells_nil]⟩
  · have hany : l.any p = true := by
      cases ha : l.any p with
      | true => rfl
      | false => rw [idxP, ha] at hx; simp at hx
    obtain ⟨i, hi, hpi, hno, hidx⟩ : ∃ i, ∃ h : i < l.length, p l[i] = true ∧ (∀ x ∈ l.take i, ¬ p x = true) ∧ idxP l p = i := by
      obtain ⟨x, hm, hp⟩ := List.any_eq_true.1 hany
      have hlt := List.findIdx_lt_length_of_exists ⟨x, hm, hp⟩
      refine ⟨l.findIdx p, hlt, List.findIdx_getElem (w := hlt), fun y hy => ?_, by rw [idxP, if_pos hany]⟩
      obtain ⟨k, hk, rfl⟩ := List.mem_take_iff_getElem.1 hy
      have := List.not_of_lt_findIdx (p := p) (xs := l) (i := k) (by omega)
      simpa using this
    rw [hidx]
    simp (config := { maxSteps := 2000000 }) (implicitDefEqProofs := false) (disch := first | omega | assumption | (simp only []; done) | fail) only [vop_move, vcallee_move, vop_assign, vcallee_assign, vop_binOp, vcallee_binOp, bin2_int, strip_pv, optV_none, ev_tmp, ev_const, ofConst_int, put_some, at_mk, fits_some, ↓look_cons, ↓vlook_t, ↓vlook_f, guard_none, ↓vrun_nil, ↓code_skip, ↓code_region, ↓code_seq, ↓code_block, ↓code_loop, ↓onNormal_normal, bin_int, int_add, evG_eq, ↓vrun_cons, ↓run1_some, ↓runG_true, ↓run2_none, ↓run3_some, at_hp, Option.map_some, Nat.reduceLT, Nat.reduceBEq, Int.reduceLT, Int.reduceNeg, Int.reduceBEq, true_and, Bool.true_and, beq_self_eq_true, wrap_i64_in, dec_t, int_beq_f]
    refine vloopW (fun s : DF l p => ⟨42, 1, [(6, .int .i64 s.j), (5, .int .i64 s.i), (0, .own 0 4 0 l.length), (1, .fn (.func g) [] caps)], [⟨33, true, cells encG s.cur⟩]⟩) (fun s => l.length - s.j) (DF.start l p i hi hpi hno) ?_ ?_
    · have e0 := DF.start_i l p i hi hpi hno
      have ej : (DF.start l p i hi hpi hno).j = i + 1 := rfl
      have ec : (DF.start l p i hi hpi hno).cur = l := rfl
      rw [e0, ej, ec]
      exact (by refine gc_of (keep := [0]) rfl rfl rfl (by decide) ?_ ?_ <;> (repeat' apply And.intro) <;> first | trivial | rfl | exact hfr.symm | exact hfn | exact ⟨_, rfl, rfl, rfl, .inl ⟨cells_nums _ _ _, rfl⟩⟩)
    intro s
    have hsj := s.hj
    have hcl := s.hl
    have hlen := cellsG_len s.cur
    rw [hcl] at hlen
    simp (config := { maxSteps := 2000000 }) (implicitDefEqProofs := false) (disch := first | omega | assumption | (simp only []; done) | fail) only [vop_move, vcallee_move, vop_binOp, vcallee_binOp, vop_builtin, vcallee_builtin, bin2_tmp, strip_pv, strip_own, optV_none, ev_tmp, put_some, at_mk, fits_some, ↓look_cons, ↓vlook_t, ↓vlook_f, guard_none, ↓vrun_nil, ↓code_region, ↓code_seq, ↓onNormal_normal, bin_int, int_lss, vlk_sl, len_own, bi_len, evG_eq, ↓vrun_cons, ↓run1_some, ↓runG_true, ↓run2_none, ↓run3_some, ↓code_cond, ↓vtest_bool, at_hp, List.map_nil, List.map_cons, List.map_nil, Option.map_some, Nat.reduceLT, Nat.reduceBEq, Int.reduceLT, Int.reduceBEq, true_and, Bool.true_and, beq_self_eq_true, Try.vkind24, dec_t]
    refine vbr_split (fun hc1 => ?_) (fun hc1 => ?_) <;> simp only [decide_eq_true_eq, decide_eq_false_iff_not, Bool.or_eq_true, Bool.and_eq_true, Bool.or_eq_false_iff, Bool.and_eq_false_imp, Bool.not_eq_true', Bool.not_eq_false', beq_iff_eq, beq_eq_false_iff_ne, bne_iff_ne, bne_eq_false_iff_eq, ne_eq] at hc1
    · have hlt : s.j < l.length := by omega
      have hg := cells_at encG s.cur s.j (by omega)
      rw [show s.cur[s.j]'(by omega) = l[s.j] from by rw [← s.get hlt Gr0, getD_eq]] at hg
      have hg' : ((cells encG s.cur).drop (s.j * 4)).take 4 = [.pv (.lit (.int .i64 l[s.j].tx)), .pv (.lit (.int .i64 l[s.j].pg)), .pv (.lit (.int .i64 l[s.j].sl)), .pv (.lit (.int .i64 l[s.j].md))] := hg
      have hm := hf l[s.j] (List.getElem_mem hlt)
      have hb1 : s.j * 4 + 4 ≤ l.length * 4 := by omega
      simp (config := { maxSteps := 2000000 }) (implicitDefEqProofs := false) (disch := first | omega | assumption | (simp only []; done) | fail) only [vop_move, vcallee_move, vop_alloc, vcallee_alloc, vop_load, vcallee_load, vop_store, vcallee_store, vop_indexAddr, vcallee_indexAddr, vcallee_value, vcal_fn, strip_pv, strip_ptr, strip_own, strip_agg, strip_fn, optV_none, ev_tmp, put_some, put_none, at_mk, fits_some, fits_none, ↓look_cons, ↓vlook_t, ↓vlook_f, guard_none, ↓vrun_nil, ↓code_skip, ↓code_region, ↓code_seq, ↓code_block, ↓onNormal_normal, load_ptr, vld_agg, store_ptr, vst_agg, blk_zero, blk_succ, set_zero, set_succ, alloc_eq, val1_some, allOne_nil, allOne_cons, one_pv, iaddr_own, viao_some, evG_eq, ↓vrun_cons, ↓run1_some, ↓runG_true, ↓run2_none, ↓run2_some, ↓run3_some, at_hp, List.map_nil, V.splice, List.length_cons, List.length_nil, List.map_cons, List.map_nil, List.cons_append, List.nil_append, List.append_nil, List.take_succ_cons, List.take_zero, List.take_nil, List.drop_succ_cons, List.drop_zero, List.drop_nil, Option.map_some, ↓reduceIte, Nat.reduceAdd, Nat.reduceLT, Nat.reduceBEq, Int.reduceLT, Int.reduceAdd, Int.reduceBEq, Int.toNat_natCast, Nat.zero_add, true_and, and_self, Bool.true_and, Bool.and_self, beq_self_eq_true, Nat.le_refl, Try.velem24, Try.vt33, Try.vzero33, dec_t, hg', hlen, hb1]
      refine vc_pure hm (by simpa [DV.nums.go, DV.nums] using hc) ?_
      simp (config := { maxSteps := 2000000 }) (implicitDefEqProofs := false) (disch := first | omega | assumption | (simp only []; done) | fail) only [vop_unOp, vcallee_unOp, strip_pv, optV_none, ev_tmp, put_some, at_mk, fits_some, ↓look_cons, ↓vlook_t, guard_none, ↓vrun_nil, ↓onNormal_normal, un_not, evG_eq, ↓vrun_cons, ↓run1_some, ↓runG_true, ↓run2_none, ↓run3_some, ↓runK_eq, ↓code_cond, ↓vtest_bool, at_hp, Option.map_some, Nat.reduceLT, Int.reduceLT, true_and, Bool.true_and, beq_self_eq_true, dec_t]
      refine vbr_split (fun hp => ?_) (fun hp => ?_)
      · have hp' : ¬ p l[s.j] = true := by simpa using hp
        have hil : s.i < l.length := by have := s.h3; show (keepL (l.take s.j) p).length < _; omega
        have hse := G_set s.cur s.i l[s.j] (by omega)
        have hb2 : s.i * 4 + 4 ≤ l.length * 4 := by omega
        simp (config := { maxSteps := 2000000 }) (implicitDefEqProofs := false) (disch := first | omega | assumption | (simp only []; done) | fail) only [vop_move, vcallee_move, vop_assign, vcallee_assign, vop_load, vcallee_load, vop_store, vcallee_store, vop_binOp, vcallee_binOp, vop_indexAddr, vcallee_indexAddr, bin2_int, strip_pv, strip_ptr, strip_own, strip_agg, optV_none, ev_tmp, ev_const, ofConst_int, put_some, put_none, at_mk, fits_some, fits_none, ↓look_cons, ↓vlook_t, ↓vlook_f, guard_none, ↓vrun_nil, ↓code_region, ↓code_seq, ↓onNormal_normal, ↓onBlock_normal, load_ptr, vld_agg, store_ptr, vst_agg, blk_zero, blk_succ, set_zero, allOne_nil, allOne_cons, one_pv, iaddr_own, viao_some, bin_int, int_add, evG_eq, ↓vrun_cons, ↓run1_some, ↓runG_true, ↓run2_none, ↓run3_some, at_hp, List.length_cons, List.length_nil, List.take_succ_cons, List.take_nil, List.drop_zero, Option.map_some, ↓reduceIte, Nat.reduceAdd, Nat.reduceLT, Nat.reduceBEq, Int.reduceLT, Int.reduceAdd, Int.reduceBEq, Int.toNat_natCast, Nat.zero_add, true_and, and_self, Bool.true_and, Bool.and_self, beq_self_eq_true, Nat.le_refl, Try.velem24, Try.vt33, wrap_i64_in, dec_t, hse, hlen, hb2]
        refine ⟨s.stay hlt hp', by show l.length - (s.j + 1) < l.length - s.j; omega, ?_⟩
        rw [s.stay_i hlt hp']
        exact (by refine gc_of (keep := [0]) rfl rfl rfl (by decide) ?_ ?_ <;> (repeat' apply And.intro) <;> first | trivial | rfl | exact hfr.symm | exact hfn | exact ⟨_, rfl, rfl, rfl, .inl ⟨cells_nums _ _ _, rfl⟩⟩)
      · have hp' : p l[s.j] = true := by simpa using hp
        simp (config := { maxSteps := 2000000 }) (implicitDefEqProofs := false) (disch := first | omega | assumption | (simp only []; done) | fail) only [vop_move, vcallee_move, vop_assign, vcallee_assign, vop_binOp, vcallee_binOp, bin2_int, strip_pv, optV_none, ev_tmp, ev_const, ofConst_int, put_some, at_mk, fits_some, ↓look_cons, ↓vlook_t, ↓vlook_f, guard_none, ↓vrun_nil, ↓code_skip, ↓code_region, ↓onNormal_normal, ↓onBlock_normal, bin_int, int_add, evG_eq, ↓vrun_cons, ↓run1_some, ↓runG_true, ↓run2_none, ↓run3_some, at_hp, Option.map_some, Nat.reduceLT, Nat.reduceBEq, Int.reduceLT, Int.reduceBEq, true_and, Bool.true_and, beq_self_eq_true, wrap_i64_in, dec_t]
        refine ⟨s.out hlt hp', by show l.length - (s.j + 1) < l.length - s.j; omega, ?_⟩
        rw [s.out_i hlt hp']
        exact (by refine gc_of (keep := [0]) rfl rfl rfl (by decide) ?_ ?_ <;> (repeat' apply And.intro) <;> first | trivial | rfl | exact hfr.symm | exact hfn | exact ⟨_, rfl, rfl, rfl, .inl ⟨cells_nums _ _ _, rfl⟩⟩)
    · have hjl : s.j = l.length := by omega
      have hil : s.i < l.length := by have := s.h3; show (keepL (l.take s.j) p).length < _; omega
      have hfit : s.i + (l.length - s.i) = s.cur.length := by omega
      have hfit2 : s.i * 4 + (l.length - s.i) * 4 ≤ l.length * 4 := by omega
      have hcz := G_clear s.cur s.i (l.length - s.i) hfit
      have ei : s.i = (keepL l p).length := by show (keepL (l.take s.j) p).length = _; rw [hjl, List.take_length]
      have et : s.cur.take s.i = keepL l p := by have := s.h1; rw [hjl, List.take_length] at this; rw [ei]; exact this
      simp (config := { maxSteps := 2000000 }) (implicitDefEqProofs := false) (disch := first | omega | assumption | (simp only []; done) | fail) only [vop_move, vcallee_move, vop_assign, vcallee_assign, vop_slice, vcallee_slice, vop_builtin, vcallee_builtin, vcl2_some, vcl3_some, bi_clear, cl2_own, strip_pv, strip_own, optV_none, ev_tmp, put_some, put_none, at_mk, fits_some, fits_none, ↓look_cons, ↓vlook_t, ↓vlook_f, guard_none, ↓vrun_nil, ↓code_region, ↓code_seq, ↓code_exit, ↓code_ret, ↓onNormal_normal, ↓onNormal_exit, ↓onBlock_exit, res_one, vres_tmp, blk_zero, set_zero, allOne_nil, allOne_cons, one_pv, slice_own_hi, slice_own_lo, vslo0_some, vslo_some, evG_eq, ↓vrun_cons, ↓run1_some, ↓runG_true, ↓run2_none, ↓run3_some, ↓keep_ret, vfinK_some, at_hp, slice_own, List.map_nil, List.length_cons, List.length_nil, List.map_cons, List.map_nil, Option.map_some, Option.map_none, ↓reduceIte, Nat.reduceAdd, Nat.reduceLT, Nat.reduceBEq, Int.reduceLT, Int.reduceAdd, Int.reduceBEq, Int.toNat_natCast, Nat.zero_add, true_and, and_self, Bool.true_and, Bool.and_self, beq_self_eq_true, Try.velem24, Try.vzero33, dec_t, dec_f, hlen, hfit2, hcz]
      refine fin _ _ (by rw [ei]) ⟨[], ?_⟩
      rw [et, ei]
end Go.Proofs.Ytjiaadkncpajnaa

namespace Go.Proofs.Ytjiaadkncpajnaa
open Go.V Go
set_option maxRecDepth 100000
set_option linter.unusedSimpArgs false

theorem modeX_v (t : Lk) (hs : t.sm) (tx pg sl : Int) : VCalls Try.prog 10 [t.d, .int .i64 tx, .agg [.int .i64 pg, .int .i64 sl]] [] (Ret (.int .i64 (if t.okB = true then modeS t.held tx pg sl else 0))) := by
  refine vcalls_drop (fn := Try.f10) Try.func10 rfl (by kernel_rfl) (by simp [Try.f10]) ?_
  have hv := valid_v t hs
  by_cases ho : t.okB = true
  · have hsrt : sortedG t.held := sorted_of t.held (by simp only [Lk.okB, Bool.and_eq_true] at ho; exact ho.1.2)
    have hm := mode_v t hs hsrt tx pg sl
    rw [ho] at hv
    rw [if_pos ho]
    unfold Lk.d at hv hm
    simp (config := { maxSteps := 2000000 }) (implicitDefEqProofs := false) (disch := first | omega | assumption | (simp only []; done) | fail) only [vop_assign, vcallee_assign, vop_box, vcallee_box, vop_load, vcallee_load, vcallee_value, vcal_fn, strip_pv, strip_ptr, strip_agg, strip_fn, optV_none, ev_tmp, ev_const, ev_func, ofConst_int, put_some, at_mk, fits_some, ↓look_cons, ↓vlook_t, ↓vlook_f, guard_none, ↓vrun_nil, ↓code_region, ↓code_seq, ↓onNormal_normal, load_ptr, vld_agg, blk_zero, box_eq, allOne_nil, allOne_cons, one_pv, enum_nil, enum_cons, evG_eq, ↓vrun_cons, ↓run1_some, ↓runG_true, ↓run2_none, ↓run2_some, ↓run3_some, at_hp, List.map_nil, dcells, List.toList_toArray, List.length_cons, List.length_nil, List.map_cons, List.map_nil, List.cons_append, List.nil_append, List.append_nil, List.take_succ_cons, List.take_nil, List.drop_zero, Option.map_some, ↓reduceIte, Nat.reduceAdd, Nat.reduceLT, Nat.reduceBEq, Int.reduceLT, Int.reduceAdd, Int.reduceBEq, Nat.zero_add, true_and, and_self, Bool.true_and, Bool.and_self, beq_self_eq_true, Nat.le_refl, Try.vt26, dec_t, Try.f10, Lk.d]
    refine vc_pure hv rfl ?_
    simp (config := { maxSteps := 2000000 }) (implicitDefEqProofs := false) (disch := first | omega | assumption | (simp only []; done) | fail) only [vop_move, vcallee_move, vop_load, vcallee_load, vop_unOp, vcallee_unOp, vcallee_value, vcal_fn, strip_pv, strip_ptr, strip_agg, strip_fn, optV_none, ev_tmp, ev_func, put_some, at_mk, fits_some, ↓look_cons, ↓vlook_t, ↓vlook_f, guard_none, ↓vrun_nil, ↓code_skip, ↓code_region, ↓code_seq, ↓onNormal_normal, load_ptr, vld_agg, blk_zero, blk_succ, un_not, evG_eq, ↓vrun_cons, ↓run1_some, ↓runG_true, ↓run2_none, ↓run2_some, ↓run3_some, ↓runK_eq, ↓code_cond, ↓vtest_bool, ↓vbr_false, at_hp, List.map_nil, List.length_cons, List.length_nil, List.map_cons, List.map_nil, List.nil_append, List.append_nil, List.take_succ_cons, List.take_nil, List.drop_zero, Option.map_some, ↓reduceIte, Nat.reduceAdd, Nat.reduceLT, Nat.reduceBEq, Int.reduceLT, Int.reduceAdd, Int.reduceBEq, Nat.zero_add, true_and, Bool.not_true, Bool.true_and, beq_self_eq_true, Nat.le_refl, Try.vt26, Try.vt28, dec_t]
    refine vc_pure hm rfl ?_
    simp (config := { maxSteps := 2000000 }) (implicitDefEqProofs := false) (disch := first | omega | assumption | (simp only []; done) | fail) only [vop_assign, vcallee_assign, strip_pv, optV_none, ev_tmp, put_some, at_mk, fits_some, ↓look_cons, ↓vlook_t, guard_none, ↓vrun_nil, ↓code_ret, ↓onNormal_normal, frz_pv, frzHeap_zero, res_one, vres_tmp, evG_eq, ↓vrun_cons, ↓run1_some, ↓runG_true, ↓run2_none, ↓run3_some, ↓runK_eq, ↓vpost_ret, vfin_some, vfin2_some, at_hp, Nat.reduceLT, Int.reduceLT, and_self, Bool.and_self, beq_self_eq_true, dec_t, Ret, DV.nums]
  · have ho' : t.okB = false := by simpa using ho
    rw [ho'] at hv
    rw [if_neg ho]
    unfold Lk.d at hv
    simp (config := { maxSteps := 2000000 }) (implicitDefEqProofs := false) (disch := first | omega | assumption | (simp only []; done) | fail) only [vop_assign, vcallee_assign, vop_box, vcallee_box, vop_load, vcallee_load, vcallee_value, vcal_fn, strip_pv, strip_ptr, strip_agg, strip_fn, optV_none, ev_tmp, ev_const, ev_func, ofConst_int, put_some, at_mk, fits_some, ↓look_cons, ↓vlook_t, ↓vlook_f, guard_none, ↓vrun_nil, ↓code_region, ↓code_seq, ↓onNormal_normal, load_ptr, vld_agg, blk_zero, box_eq, allOne_nil, allOne_cons, one_pv, enum_nil, enum_cons, evG_eq, ↓vrun_cons, ↓run1_some, ↓runG_true, ↓run2_none, ↓run2_some, ↓run3_some, at_hp, List.map_nil, dcells, List.toList_toArray, List.length_cons, List.length_nil, List.map_cons, List.map_nil, List.cons_append, List.nil_append, List.append_nil, List.take_succ_cons, List.take_nil, List.drop_zero, Option.map_some, ↓reduceIte, Nat.reduceAdd, Nat.reduceLT, Nat.reduceBEq, Int.reduceLT, Int.reduceAdd, Int.reduceBEq, Nat.zero_add, true_and, and_self, Bool.true_and, Bool.and_self, beq_self_eq_true, Nat.le_refl, Try.vt26, dec_t, Try.f10, Lk.d]
    refine vc_pure hv rfl ?_
    simp (config := { maxSteps := 2000000 }) (implicitDefEqProofs := false) (disch := first | omega | assumption | (simp only []; done) | fail) only [vop_assign, vcallee_assign, vop_unOp, vcallee_unOp, strip_pv, optV_none, ev_tmp, ev_const, ofConst_int, put_some, at_mk, fits_some, ↓look_cons, ↓vlook_t, guard_none, ↓vrun_nil, ↓code_region, ↓code_seq, ↓code_ret, ↓onNormal_normal, ↓onNormal_ret, frz_pv, frzHeap_zero, res_one, vres_tmp, un_not, evG_eq, ↓vrun_cons, ↓run1_some, ↓runG_true, ↓run2_none, ↓run3_some, ↓runK_eq, ↓code_cond, ↓vtest_bool, ↓vbr_true, ↓vpost_ret, vfin_some, vfin2_some, at_hp, Option.map_some, Nat.reduceLT, Int.reduceLT, and_self, Bool.not_false, Bool.and_self, beq_self_eq_true, dec_t, Ret, DV.nums]
def Lk.waitS (t : Lk) (tx : Int) : Option Gr := if t.okB = true then t.wait.find? (fun g => decide (g.tx = tx)) else none
def waitD : Option Gr → DV
  | none => .tup [Gr0.d, .bool false]
  | some g => .tup [g.d, .bool true]
theorem waiting1_v (tx : Int) (x : Gr) : VCalls Try.prog 55 [x.d, .ip [.lit (.int .i64 tx)]] [] (Ret (.bool (decide (x.tx = tx)))) := by
  refine vcalls_drop (fn := Try.f55) Try.func55 rfl (by kernel_rfl) (by simp [Try.f55]) ?_
  by_cases h : x.tx = tx <;> simp (config := { maxSteps := 2000000 }) (implicitDefEqProofs := false) (disch := first | omega | assumption | (simp only []; done) | fail) only [vop_assign, vcallee_assign, vop_box, vcallee_box, vop_load, vcallee_load, vop_binOp, vcallee_binOp, vop_fieldAddr, vcallee_fieldAddr, bin2_tmp, strip_pv, strip_ptr, strip_ip, strip_agg, optV_none, ev_tmp, ev_const, ofConst_bool, put_some, at_mk, fits_some, ↓look_cons, ↓vlook_t, ↓vlook_f, guard_none, ↓vrun_nil, ↓code_region, ↓code_seq, ↓code_ret, ↓onNormal_normal, frz_pv, frzHeap_zero, res_one, vres_tmp, load_ptr, load_ip, vld_one, vldp_one, blk_zero, box_eq, allOne_nil, allOne_cons, one_pv, faddr_ptr, vfap_some, bin_int, int_eql, enum_nil, enum_cons, evG_eq, ↓vrun_cons, ↓run1_some, ↓runG_true, ↓run2_none, ↓run3_some, ↓vpost_ret, vfin_some, vfin2_some, at_hp, dcells, List.toList_toArray, List.getElem?_cons_zero, List.length_nil, List.nil_append, Option.map_some, ↓reduceIte, reduceCtorEq, Nat.reduceAdd, Nat.reduceLT, Nat.reduceBEq, Int.reduceLT, Int.reduceAdd, Int.reduceBEq, Nat.zero_add, Nat.add_zero, decide_false, and_self, Bool.and_self, beq_self_eq_true, Try.vt3, Try.vfield33x0, dec_t, int_beq_f, Ret, DV.nums, Try.f55, Gr.d, h]
theorem idxP_find {α : Type} (l : List α) (p : α → Bool) : (idxP l p = -1 ∧ l.find? p = none) ∨ ∃ i, ∃ h : i < l.length, idxP l p = i ∧ l.find? p = some l[i] := by
  by_cases ha : l.any p = true
  · obtain ⟨x, hm, hp⟩ := List.any_eq_true.1 ha
    have hlt := List.findIdx_lt_length_of_exists ⟨x, hm, hp⟩
    refine .inr ⟨l.findIdx p, hlt, by rw [idxP, if_pos ha], ?_⟩
    rw [List.find?_eq_some_iff_getElem]
    refine ⟨List.findIdx_getElem (w := hlt), _, hlt, rfl, fun j hj => ?_⟩
    have := List.not_of_lt_findIdx hj
    simpa using this
  · refine .inl ⟨by rw [idxP, if_neg ha], ?_⟩
    rw [List.find?_eq_none]
    intro x hx hp
    exact ha (List.any_eq_true.2 ⟨x, hx, hp⟩)
theorem waiting_v (t : Lk) (hs : t.sm) (tx : Int) : VCalls Try.prog 25 [t.d, .int .i64 tx] [] (Ret (waitD (t.waitS tx))) := by
  refine vcalls_drop (fn := Try.f25) Try.func25 rfl (by kernel_rfl) (by simp [Try.f25]) ?_
  have hv := valid_v t hs
  have hi := indexFG_v t.wait (by have := hs.2; omega) 55 [.ip [.lit (.int .i64 tx)]] rfl (fun g => decide (g.tx = tx)) (fun x _ => waiting1_v tx x)
  unfold Lk.d at hv
  simp (config := { maxSteps := 2000000 }) (implicitDefEqProofs := false) (disch := first | omega | assumption | (simp only []; done) | fail) only [vop_assign, vcallee_assign, vop_alloc, vcallee_alloc, vop_box, vcallee_box, vop_load, vcallee_load, vop_makeFunc, vcallee_makeFunc, vop_fieldAddr, vcallee_fieldAddr, vcallee_value, vcal_fn, strip_pv, strip_ptr, strip_agg, strip_fn, optV_none, ev_tmp, ev_const, ev_func, ofConst_bool, put_some, at_mk, fits_some, ↓look_cons, ↓vlook_t, ↓vlook_f, guard_none, ↓vrun_nil, ↓code_region, ↓code_seq, ↓onNormal_normal, load_ptr, vld_one, blk_zero, box_eq, alloc_eq, val1_some, allOne_nil, allOne_cons, one_pv, faddr_ptr, vfap_some, enum_nil, enum_cons, evG_eq, ↓vrun_cons, ↓run1_some, ↓runG_true, ↓run2_none, ↓run2_some, ↓run3_some, at_hp, List.map_nil, dcells, List.toList_toArray, List.getElem?_cons_zero, List.getElem?_cons_succ, List.length_cons, List.length_nil, List.map_cons, List.map_nil, List.cons_append, List.nil_append, List.append_nil, Option.map_some, ↓reduceIte, reduceCtorEq, Nat.reduceAdd, Nat.reduceLT, Nat.reduceBEq, Int.reduceLT, Int.reduceAdd, Int.reduceBEq, Nat.zero_add, true_and, and_self, Bool.true_and, Bool.and_self, beq_self_eq_true, Try.vt24, Try.vfield26x1, Try.vzero33, dec_t, Try.f25, Lk.d]
  refine vc_lendA hi (allSome2 rfl (frzA_fn1 rfl)) rfl ?_
  unfold Lk.waitS
  rcases idxP_find t.wait (fun g => decide (g.tx = tx)) with ⟨e1, e2⟩ | ⟨i, hlt, e1, e2⟩
  · rw [e1, e2, ite_self]
    simp (config := { maxSteps := 2000000 }) (implicitDefEqProofs := false) (disch := first | omega | assumption | (simp only []; done) | fail) only [vop_move, vcallee_move, vop_assign, vcallee_assign, vop_pick, vcallee_pick, vop_build, vcallee_build, vop_store, vcallee_store, vop_binOp, vcallee_binOp, bin2_int, vpick_bool, strip_pv, strip_ptr, strip_agg, strip_tup, optV_none, ev_tmp, ev_const, ofConst_int, ofConst_bool, put_some, put_none, at_mk, fits_some, fits_none, ↓look_cons, ↓vlook_t, ↓vlook_f, guard_none, guard_some, vgof_bool, ↓vrun_nil, ↓code_region, ↓code_seq, ↓code_ret, ↓onNormal_normal, ↓onNormal_ret, frz_tup, frzT_agg, frzT_pv, frz1_pv, allSome_nil, allSome_cons, frzHeap_zero, res_two, vres_tmp, vres_cell, load_ptr, vld_agg, store_ptr, vst_agg, blk_zero, blk_succ, set_zero, set_succ, allOne_nil, allOne_cons, one_pv, bin_int, int_lss, parts_nil, evG_eq, ↓vrun_cons, ↓run1_some, ↓runG_true, ↓runG_false, ↓run2_none, ↓run3_some, ↓runK_eq, ↓code_cond, ↓vtest_bool, ↓vbr_true, ↓vpost_ret, vfin_some, vfin2_some, at_hp, pickV_t, List.map_nil, vbuild, vfill, V.splice, List.getElem?_cons_zero, List.getElem?_cons_succ, List.length_cons, List.length_nil, List.map_cons, List.map_nil, List.nil_append, List.append_nil, List.take_succ_cons, List.take_zero, List.take_nil, List.drop_succ_cons, List.drop_zero, List.drop_nil, Option.map_some, Option.bind_some, ↓reduceIte, Nat.reduceAdd, Nat.reduceLT, Nat.reduceBEq, Int.reduceLT, Int.reduceNeg, Int.reduceAdd, Int.reduceBEq, Nat.zero_add, true_and, and_self, Bool.not_true, Bool.true_and, Bool.and_self, b_beq_f, beq_self_eq_true, Nat.le_refl, DV.wk.go, Try.vt33, Try.vplaces33, Try.vzero33, dec_t, Ret, DV.nums, DV.nums.go]
    simp (config := { maxSteps := 2000000 }) (implicitDefEqProofs := false) (disch := first | omega | assumption) only [waitD, Gr0, Gr.d]
  · rw [e1, e2]
    have hg := fzG_at t.wait i hlt
    simp (config := { maxSteps := 2000000 }) (implicitDefEqProofs := false) (disch := first | omega | assumption | (simp only []; done) | fail) only [vop_move, vcallee_move, vop_assign, vcallee_assign, vop_load, vcallee_load, vop_binOp, vcallee_binOp, vcallee_value, vcal_fn, bin2_int, strip_pv, strip_ptr, strip_fn, strip_opt, vstr_true, optV_none, optV_some, ev_tmp, ev_const, ev_func, ofConst_int, put_some, at_mk, fits_some, ↓look_cons, ↓vlook_t, ↓vlook_f, guard_none, guard_some, vgof_bool, ↓vrun_nil, ↓code_region, ↓code_seq, ↓onNormal_normal, load_ptr, vld_agg, blk_zero, bin_int, int_lss, evG_eq, ↓vrun_cons, ↓run1_some, ↓runG_true, ↓run2_none, ↓run2_some, ↓run3_some, ↓runK_eq, at_hp, List.map_nil, List.getElem?_cons_zero, List.getElem?_cons_succ, List.length_cons, List.length_nil, List.map_cons, List.map_nil, List.nil_append, List.append_nil, List.take_succ_cons, List.take_nil, List.drop_zero, Option.map_some, Option.bind_some, ↓reduceIte, Nat.reduceAdd, Nat.reduceLT, Nat.reduceBEq, Int.reduceLT, Int.reduceAdd, Int.reduceBEq, Nat.zero_add, true_and, or_true, Bool.not_true, Bool.or_true, Bool.true_and, beq_self_eq_true, Nat.le_refl, Try.vt26, dec_t, dec_f]
    refine vc_pure (hv) rfl ?_
    by_cases ho : t.okB = true
    · rw [if_pos ho]
      simp (config := { maxSteps := 2000000 }) (implicitDefEqProofs := false) (disch := first | omega | assumption | (simp only [List.length_cons, List.length_nil, Nat.zero_add, Nat.reduceAdd]; done) | fail) only [vop_move, vcallee_move, vop_assign, vcallee_assign, vop_pick, vcallee_pick, vop_load, vcallee_load, vop_store, vcallee_store, vop_unOp, vcallee_unOp, vop_fieldAddr, vcallee_fieldAddr, vop_indexAddr, vcallee_indexAddr, vpick_bool, strip_pv, strip_ptr, strip_ip, strip_agg, strip_opt, vstr_true, optV_none, optV_some, pickV_bool, ev_tmp, ev_const, ofConst_bool, put_some, put_none, at_mk, fits_some, fits_none, ↓look_cons, ↓vlook_t, ↓vlook_f, guard_none, guard_some, vgof_bool, ↓vrun_nil, ↓code_skip, ↓code_region, ↓code_seq, ↓code_ret, ↓onNormal_normal, frz_tup, frzT_agg, frzT_pv, frz1_pv, allSome_nil, allSome_cons, frzHeap_zero, res_two, vres_tmp, vres_cell, load_ptr, load_ip, vld_one, vld_agg, vldp_agg, store_ptr, vst_agg, blk_zero, blk_succ, set_zero, set_succ, allOne_nil, allOne_cons, one_pv, faddr_ptr, vfap_some, iaddr_sl, vias_some, un_not, evG_eq, ↓vrun_cons, ↓run1_some, ↓runG_true, ↓run2_none, ↓run3_some, ↓runK_eq, ↓code_cond, ↓vtest_bool, ↓vbr_false, ↓vpost_ret, vfin_some, vfin2_some, at_hp, List.map_nil, V.splice, List.getElem?_cons_zero, List.getElem?_cons_succ, List.length_cons, List.length_nil, List.map_cons, List.map_nil, List.nil_append, List.append_nil, List.take_succ_cons, List.take_zero, List.take_nil, List.drop_succ_cons, List.drop_zero, List.drop_nil, Option.map_some, Option.bind_some, ↓reduceIte, reduceCtorEq, Nat.reduceAdd, Nat.reduceLT, Nat.reduceBEq, Int.reduceLT, Int.reduceAdd, Int.reduceBEq, Int.toNat_natCast, Nat.zero_add, true_and, and_self, or_true, Bool.not_true, Bool.not_false, Bool.or_true, Bool.true_and, Bool.and_self, cond_false, beq_self_eq_true, Nat.le_refl, DV.wk.go, Try.vt24, Try.velem24, Try.vfield26x1, Try.vt33, dec_t, Ret, DV.nums, DV.nums.go, ho, hg]
      simp (config := { maxSteps := 2000000 }) (implicitDefEqProofs := false) (disch := first | omega | assumption) only [waitD, Gr.d]
    · have ho' : t.okB = false := by simpa using ho
      rw [if_neg ho]
      simp (config := { maxSteps := 2000000 }) (implicitDefEqProofs := false) (disch := first | omega | assumption | (simp only []; done) | fail) only [vop_assign, vcallee_assign, vop_pick, vcallee_pick, vop_build, vcallee_build, vop_store, vcallee_store, vop_unOp, vcallee_unOp, vpick_bool, strip_pv, strip_ptr, strip_agg, strip_opt, vstr_true, optV_none, optV_some, pickV_bool, ev_tmp, ev_const, ofConst_bool, put_some, put_none, at_mk, fits_some, fits_none, ↓look_cons, ↓vlook_t, ↓vlook_f, guard_none, guard_some, vgof_bool, ↓vrun_nil, ↓code_region, ↓code_seq, ↓code_ret, ↓onNormal_normal, ↓onNormal_ret, frz_tup, frzT_agg, frzT_pv, frz1_pv, allSome_nil, allSome_cons, frzHeap_zero, res_two, vres_tmp, vres_cell, load_ptr, vld_agg, store_ptr, vst_agg, blk_zero, blk_succ, set_zero, set_succ, allOne_nil, allOne_cons, one_pv, un_not, parts_nil, evG_eq, ↓vrun_cons, ↓run1_some, ↓runG_true, ↓run2_none, ↓run3_some, ↓runK_eq, ↓code_cond, ↓vtest_bool, ↓vbr_true, ↓vpost_ret, vfin_some, vfin2_some, at_hp, List.map_nil, vbuild, vfill, V.splice, List.getElem?_cons_zero, List.getElem?_cons_succ, List.length_cons, List.length_nil, List.map_cons, List.map_nil, List.nil_append, List.append_nil, List.take_succ_cons, List.take_zero, List.take_nil, List.drop_succ_cons, List.drop_zero, List.drop_nil, Option.map_some, Option.bind_some, ↓reduceIte, Nat.reduceAdd, Nat.reduceLT, Nat.reduceBEq, Int.reduceLT, Int.reduceAdd, Int.reduceBEq, Nat.zero_add, true_and, and_self, or_true, Bool.not_true, Bool.not_false, Bool.or_true, Bool.true_and, Bool.and_self, Bool.cond_self, beq_self_eq_true, Nat.le_refl, DV.wk.go, Try.vt33, Try.vplaces33, Try.vzero33, dec_t, Ret, DV.nums, DV.nums.go, ho']
      simp (config := { maxSteps := 2000000 }) (implicitDefEqProofs := false) (disch := first | omega | assumption) only [waitD, Gr0, Gr.d]
theorem blocked1_v (t : Lk) (i : Nat) (hi : i < t.wait.length) (x : Gr) : VCalls Try.prog 71 [x.d, .ip [.sl (fz encG t.held), .sl (fz encG t.wait)], .ip [.lit (.int .i64 i)]] [] (Ret (.bool (confB x t.wait[i]))) := by
  refine vcalls_drop (fn := Try.f71) Try.func71 rfl (by kernel_rfl) (by simp [Try.f71]) ?_
  have hg := fzG_at t.wait i hi
  have hc := conflict_v x t.wait[i]
  unfold Gr.d at hc
  simp (config := { maxSteps := 2000000 }) (implicitDefEqProofs := false) (disch := first | omega | assumption | (simp only []; done) | fail) only [vop_assign, vcallee_assign, vop_box, vcallee_box, strip_pv, strip_agg, optV_none, ev_tmp, ev_const, ofConst_bool, put_some, at_mk, fits_some, ↓look_cons, ↓vlook_t, guard_none, ↓vrun_nil, ↓code_region, ↓code_draw, ↓code_seq, ↓onNormal_normal, box_eq, allOne_nil, allOne_cons, one_pv, enum_nil, enum_cons, evG_eq, ↓vrun_cons, ↓run1_some, ↓runG_true, ↓run2_none, ↓run3_some, at_hp, dcells, List.toList_toArray, List.length_nil, List.nil_append, ↓reduceIte, Nat.reduceAdd, Nat.reduceLT, Int.reduceLT, Int.reduceAdd, Nat.zero_add, true_and, and_self, Bool.true_and, Bool.and_self, beq_self_eq_true, dec_t, Try.f71, Gr.d]
  refine vdraw (by kernel_rfl) (by kernel_rfl) ?_
  simp (config := { maxSteps := 2000000 }) (implicitDefEqProofs := false) (disch := first | omega | assumption | (simp only [List.length_cons, List.length_nil, Nat.zero_add, Nat.reduceAdd]; done) | fail) only [vop_load, vcallee_load, okKind_load, vop_fieldAddr, vcallee_fieldAddr, okKind_fieldAddr, foot_fieldAddr, vop_indexAddr, vcallee_indexAddr, okKind_indexAddr, foot_indexAddr, foot_load, vcallee_value, vcal_fn, ptrNo_ptr, ptrNo_ip, strip_pv, strip_ptr, strip_ip, strip_agg, strip_fn, optV_none, ev_tmp, ev_func, put_some, at_mk, fits_some, ↓look_cons, ↓vlook_t, ↓vlook_f, guard_none, load_ptr, load_ip, vld_agg, vldp_one, vldp_agg, blk_zero, faddr_ip, vfai_some, iaddr_sl, vias_some, okc_nil, okc_none, okc_other, evG_eq, ↓vdr_cons, ↓dr1_some, ↓drG_true, ↓dr2_none, ↓dr2_some, ↓dr3_some, at_hp, List.map_nil, List.getElem?_cons_zero, List.length_cons, List.length_nil, List.map_cons, List.map_nil, List.cons_append, List.nil_append, List.append_nil, List.take_succ_cons, List.take_nil, List.drop_succ_cons, List.drop_zero, Option.map_some, ↓reduceIte, reduceCtorEq, Nat.reduceAdd, Nat.reduceLT, Nat.reduceBEq, Int.reduceLT, Int.reduceAdd, Int.reduceBEq, Int.toNat_natCast, Nat.zero_add, true_and, Bool.true_and, beq_self_eq_true, Nat.le_refl, Try.vt3, Try.vt24, Try.velem24, Try.vfield26x1, Try.vt33, dec_t, hg]
  refine vdc_call (hc) rfl rfl ?_
  simp (config := { maxSteps := 2000000 }) (implicitDefEqProofs := false) (disch := first | omega | assumption | (simp only []; done) | fail) only [vop_assign, vcallee_assign, okKind_assign, foot_assign, strip_pv, optV_none, ev_tmp, put_some, at_mk, fits_some, ↓look_cons, ↓vlook_t, guard_none, ↓vdr_nil, ↓code_ret, ↓onNormal_normal, frz_pv, frzHeap_zero, res_one, vres_tmp, okc_nil, okc_none, okc_other, evG_eq, ↓vdr_cons, ↓dr1_some, ↓drG_true, ↓dr2_none, ↓dr3_some, ↓drK_eq, ↓vpost_ret, vfin_some, vfin2_some, at_hp, List.cons_append, List.nil_append, Nat.reduceAdd, Nat.reduceLT, Int.reduceLT, Int.reduceAdd, Nat.zero_add, and_self, Bool.and_self, beq_self_eq_true, dec_t, Ret, DV.nums]
def Lk.blkB (t : Lk) (i : Nat) : Bool := t.held.any (fun x => confB x (t.wait.getD i Gr0)) || (t.wait.take i).any (fun x => confB x (t.wait.getD i Gr0))
theorem blocked_v (t : Lk) (hs : t.sm) (i : Nat) (hi : i < t.wait.length) : VCalls Try.prog 62 [t.d, .int .i64 i] [] (Ret (.bool (t.blkB i))) := by
  refine vcalls_drop (fn := Try.f62) Try.func62 rfl (by kernel_rfl) (by simp [Try.f62]) ?_
  have h1 := containsFG_v t.held (by have := hs.1; omega) 71 [.ip [.sl (fz encG t.held), .sl (fz encG t.wait)], .ip [.lit (.int .i64 i)]] rfl (fun x => confB x t.wait[i]) (fun x _ => blocked1_v t i hi x)
  have h2 := containsFG_v (t.wait.take i) (by have := hs.2; rw [List.length_take]; omega) 71 [.ip [.sl (fz encG t.held), .sl (fz encG t.wait)], .ip [.lit (.int .i64 i)]] rfl (fun x => confB x t.wait[i]) (fun x _ => blocked1_v t i hi x)
  have htk : (fz encG t.wait).take i = fz encG (t.wait.take i) := fz_take encG t.wait i
  have hx : (fz encG t.wait)[0]?.map List.length = some 4 := fz_has encG t.wait (by omega)
  have hln : i ≤ (fz encG t.wait).length := by rw [fz_len]; omega
  have h00 : (0 : Nat) ≤ i := by omega
  have hd := getD_eq t.wait i hi Gr0
  unfold Lk.blkB
  rw [hd]
  simp (config := { maxSteps := 2000000 }) (implicitDefEqProofs := false) (disch := first | omega | assumption | (simp only []; done) | fail) only [vop_move, vcallee_move, vop_assign, vcallee_assign, vop_box, vcallee_box, vop_load, vcallee_load, vop_makeFunc, vcallee_makeFunc, vop_fieldAddr, vcallee_fieldAddr, vcallee_value, vcal_fn, strip_pv, strip_ptr, strip_agg, strip_fn, optV_none, ev_tmp, ev_const, ev_func, ofConst_bool, put_some, at_mk, fits_some, ↓look_cons, ↓vlook_t, ↓vlook_f, guard_none, ↓vrun_nil, ↓code_region, ↓code_seq, ↓onNormal_normal, load_ptr, vld_one, blk_zero, box_eq, allOne_nil, allOne_cons, one_pv, faddr_ptr, vfap_some, enum_nil, enum_cons, evG_eq, ↓vrun_cons, ↓run1_some, ↓runG_true, ↓run2_none, ↓run2_some, ↓run3_some, at_hp, List.map_nil, dcells, List.toList_toArray, List.getElem?_cons_zero, List.length_cons, List.length_nil, List.map_cons, List.map_nil, List.cons_append, List.nil_append, List.append_nil, Option.map_some, ↓reduceIte, reduceCtorEq, Nat.reduceAdd, Nat.reduceLT, Nat.reduceBEq, Int.reduceLT, Int.reduceAdd, Int.reduceBEq, Nat.zero_add, Nat.add_zero, true_and, and_self, Bool.true_and, Bool.and_self, beq_self_eq_true, Try.vt24, Try.vfield26x0, dec_t, Try.f62, Lk.d]
  refine vc_lendA h1 (by simp (config := { maxSteps := 2000000 }) (implicitDefEqProofs := false) (disch := first | omega | assumption) only [allSome_nil, allSome_cons, blk_zero, blk_succ, List.map_nil, List.map_cons, List.map_nil, List.drop_zero, Option.map_some, frzP_pv, frzA_pv, frzA_fn, frzF_some, frzB_ptrE, frzQ_some]) rfl ?_
  by_cases ha : (t.held.any fun x => confB x t.wait[i]) = true
  · simp (config := { maxSteps := 2000000 }) (implicitDefEqProofs := false) (disch := first | omega | assumption | (simp only []; done) | fail) only [vop_move, vcallee_move, vop_assign, vcallee_assign, vop_pick, vcallee_pick, vpick_bool, strip_pv, strip_tup, optV_none, ev_tmp, ev_const, ofConst_bool, put_some, at_mk, fits_some, ↓look_cons, ↓vlook_t, ↓vlook_f, guard_none, guard_some, vgof_bool, ↓vrun_nil, ↓code_ret, ↓onNormal_normal, frz_pv, frzHeap_zero, res_one, vres_tmp, evG_eq, ↓vrun_cons, ↓run1_some, ↓runG_true, ↓runG_false, ↓run2_none, ↓run3_some, ↓runK_eq, ↓vpost_ret, vfin_some, vfin2_some, at_hp, pickV_t, List.getElem?_cons_zero, List.getElem?_cons_succ, Option.map_some, Option.bind_some, Nat.reduceLT, Nat.reduceBEq, Int.reduceLT, Int.reduceBEq, and_self, true_or, Bool.not_true, Bool.true_or, Bool.and_self, b_beq_f, beq_self_eq_true, dec_t, Ret, DV.nums, ha]
    try simp only []
  · have ha' : (t.held.any fun x => confB x t.wait[i]) = false := by simpa using ha
    simp (config := { maxSteps := 2000000 }) (implicitDefEqProofs := false) (disch := first | omega | assumption | (simp only []; done) | fail) only [vop_move, vcallee_move, vop_load, vcallee_load, vop_slice, vcallee_slice, vop_fieldAddr, vcallee_fieldAddr, vcallee_value, vcal_fn, strip_pv, strip_ptr, strip_fn, strip_opt, vstr_true, optV_none, optV_some, ev_tmp, ev_func, put_some, at_mk, fits_some, ↓look_cons, ↓vlook_t, ↓vlook_f, guard_none, guard_some, vgof_bool, load_ptr, vld_one, blk_zero, blk_succ, faddr_ptr, vfap_some, evG_eq, ↓vrun_cons, ↓run1_some, ↓runG_true, ↓run2_none, ↓run2_some, ↓run3_some, ↓runK_eq, at_hp, slice_pv, slice_sl_hi, vslk_some, List.map_nil, List.getElem?_cons_zero, List.getElem?_cons_succ, List.map_cons, List.map_nil, List.nil_append, List.append_nil, List.drop_zero, Option.map_some, Option.map_none, Option.bind_some, ↓reduceIte, reduceCtorEq, Nat.reduceLT, Nat.reduceBEq, Int.reduceLT, Int.reduceBEq, Int.toNat_natCast, Nat.zero_add, true_and, or_true, false_or, Bool.not_true, Bool.or_true, Bool.false_or, Bool.true_and, beq_self_eq_true, Try.vt3, Try.vt24, Try.velem24, Try.vfield26x1, dec_t, ha', htk]
    refine vc_lendA (h2) (by simp (config := { maxSteps := 2000000 }) (implicitDefEqProofs := false) (disch := first | omega | assumption) only [allSome_nil, allSome_cons, blk_zero, blk_succ, List.map_nil, List.map_cons, List.map_nil, List.drop_zero, Option.map_some, frzP_pv, frzA_pv, frzA_fn, frzF_some, frzB_ptrE, frzQ_some]) rfl ?_
    simp (config := { maxSteps := 2000000 }) (implicitDefEqProofs := false) (disch := first | omega | assumption | (simp only []; done) | fail) only [vop_assign, vcallee_assign, vop_pick, vcallee_pick, vpick_bool, strip_pv, strip_opt, vstr_true, optV_none, optV_some, pickV_bool, ev_tmp, ev_const, ofConst_bool, put_some, at_mk, fits_some, ↓look_cons, ↓vlook_t, ↓vlook_f, guard_none, ↓vrun_nil, ↓code_ret, ↓onNormal_normal, frz_pv, frzHeap_zero, res_one, vres_tmp, evG_eq, ↓vrun_cons, ↓run1_some, ↓runG_true, ↓run2_none, ↓run3_some, ↓runK_eq, ↓vpost_ret, vfin_some, vfin2_some, at_hp, Nat.reduceLT, Nat.reduceBEq, Int.reduceLT, Int.reduceBEq, and_self, or_true, Bool.not_true, Bool.not_false, Bool.or_true, Bool.and_self, cond_false, beq_self_eq_true, dec_t, Ret, DV.nums]
end Go.Proofs.Ytjiaadkncpajnaa

namespace Go.Proofs.Ytjiaadkncpajnaa
open Go.V Go
set_option maxRecDepth 100000
set_option linter.unusedSimpArgs false

/-! Plain: holding, settling. -/
theorem flo_le (l : List Gr) (tx pg sl : Int) : floG l tx pg sl ≤ l.length := lo_le _ _
theorem flo_lt (l : List Gr) (tx pg sl : Int) (k : Nat) (hk : k < floG l tx pg sl) (hl : k < l.length) : ordG l[k] ⟨tx, pg, sl, 0⟩ < 0 := by
  exact of_decide_eq_true (lo_before l _ k hk hl)
theorem flo_ge (l : List Gr) (h : sortedG l) (tx pg sl : Int) (k : Nat) (hk : floG l tx pg sl ≤ k) (hl : k < l.length) : ¬ ordG l[k] ⟨tx, pg, sl, 0⟩ < 0 := by
  intro hx
  have h1 : floG l tx pg sl < l.length := by omega
  have h2 := lo_at l (fun x => decide (ordG x ⟨tx, pg, sl, 0⟩ < 0)) h1
  rw [decide_eq_false_iff_not] at h2
  apply h2
  rcases Nat.lt_or_ge (floG l tx pg sl) k with hlt | hge
  · exact of_decide_eq_true (fore_G l h ⟨tx, pg, sl, 0⟩ (floG l tx pg sl) k h1 hl hlt (decide_eq_true hx))
  · have e : k = floG l tx pg sl := by omega
    subst e; exact hx
theorem ffound_iff (l : List Gr) (tx pg sl : Int) : ffound l tx pg sl = true ↔ ∃ h : floG l tx pg sl < l.length, keyB tx pg sl l[floG l tx pg sl] = true := by
  unfold ffound
  cases hx : l[floG l tx pg sl]? with
  | none => rw [List.getElem?_eq_none_iff] at hx; simp; omega
  | some g =>
    obtain ⟨hlt, rfl⟩ := List.getElem?_eq_some_iff.1 hx
    simp only [Option.map_some, Option.getD_some, keyB_ord]
    exact ⟨fun h => ⟨hlt, h⟩, fun ⟨_, h⟩ => h⟩
/-- How many are replaced. -/
def fnum (l : List Gr) (g : Gr) : Nat := if ffound l g.tx g.pg g.sl = true then 1 else 0
def flo (l : List Gr) (g : Gr) : Nat := floG l g.tx g.pg g.sl
/-- A grant more is held; a weaker one of the same transaction goes. -/
def holdS (l : List Gr) (g : Gr) : List Gr := l.take (flo l g) ++ g :: l.drop (flo l g + fnum l g)
theorem flo_num (l : List Gr) (g : Gr) : flo l g + fnum l g ≤ l.length := by
  unfold fnum flo
  split
  · rename_i h
    obtain ⟨h1, _⟩ := (ffound_iff _ _ _ _).1 h
    omega
  · have := flo_le l g.tx g.pg g.sl; omega
theorem take_lt (l : List Gr) (g : Gr) : ∀ x ∈ l.take (flo l g), ordG x g < 0 := by
  intro x hx
  obtain ⟨k, hk, rfl⟩ := List.mem_take_iff_getElem.1 hx
  exact flo_lt l g.tx g.pg g.sl k (by unfold flo at hk; omega) (by omega)
theorem drop_gt (l : List Gr) (h : sortedG l) (g : Gr) : ∀ x ∈ l.drop (flo l g + fnum l g), ordG g x < 0 := by
  intro x hx
  obtain ⟨k, hk, rfl⟩ := List.mem_drop_iff_getElem.1 hx
  have h1 := flo_ge l h g.tx g.pg g.sl (flo l g + fnum l g + k) (by unfold flo; omega) (by omega)
  have h2 : ¬ (l[flo l g + fnum l g + k].tx = g.tx ∧ l[flo l g + fnum l g + k].pg = g.pg ∧ l[flo l g + fnum l g + k].sl = g.sl) := by
    intro he
    have hk2 := keyB_eq.2 he
    by_cases hf : ffound l g.tx g.pg g.sl = true
    · have e1 : fnum l g = 1 := by simp [fnum, hf]
      obtain ⟨h3, h4⟩ := (ffound_iff _ _ _ _).1 hf
      have := List.pairwise_iff_getElem.mp h (flo l g) (flo l g + fnum l g + k) h3 (by omega) (by omega)
      rw [keyB_eq] at h4
      rw [ordG_lt] at this
      unfold flo at *
      omega
    · have e1 : fnum l g = 0 := by simp [fnum, hf]
      rcases Nat.eq_zero_or_pos k with hz | hz
      · apply hf
        rw [ffound_iff]
        refine ⟨by unfold flo at hk; omega, ?_⟩
        simpa [e1, hz, flo] using hk2
      · have h3 : flo l g < l.length := by omega
        have h5 := flo_ge l h g.tx g.pg g.sl (flo l g) (by unfold flo; omega) h3
        have := List.pairwise_iff_getElem.mp h (flo l g) (flo l g + fnum l g + k) h3 (by omega) (by omega)
        rw [ordG_lt] at this h5
        simp only at h5
        omega
  rw [ordG_lt] at h1 ⊢
  simp only at h1
  omega
theorem holdS_sorted (l : List Gr) (h : sortedG l) (g : Gr) : sortedG (holdS l g) := by
  unfold holdS sortedG
  rw [List.pairwise_append]
  refine ⟨List.Pairwise.sublist (List.take_sublist _ _) h, List.pairwise_cons.2 ⟨drop_gt l h g, List.Pairwise.sublist (List.drop_sublist _ _) h⟩, ?_⟩
  intro a ha b hb
  rcases List.mem_cons.1 hb with rfl | hb
  · exact take_lt l _ a ha
  · exact ordG_trans (take_lt l g a ha) (drop_gt l h g b hb)
theorem mem_holdS (l : List Gr) (h : sortedG l) (g x : Gr) : x ∈ holdS l g ↔ x = g ∨ (x ∈ l ∧ keyB g.tx g.pg g.sl x = false) := by
  have key : x ∈ l → x ∉ l.take (flo l g) → x ∉ l.drop (flo l g + fnum l g) → keyB g.tx g.pg g.sl x = true := by
    intro h1 h2 h3
    obtain ⟨k, hk, rfl⟩ := List.getElem_of_mem h1
    have h4 : ¬ k < flo l g := fun hlt => h2 (List.mem_take_iff_getElem.2 ⟨k, by omega, rfl⟩)
    have h5 : ¬ flo l g + fnum l g ≤ k := fun hge => h3 (List.mem_drop_iff_getElem.2 ⟨k - (flo l g + fnum l g), by omega, by congr 1; omega⟩)
    have e : fnum l g = 1 ∧ k = flo l g := by
      unfold fnum at *
      split at h5 <;> rename_i hf
      · rw [if_pos hf]; exact ⟨rfl, by omega⟩
      · omega
    obtain ⟨e1, rfl⟩ := e
    have hf : ffound l g.tx g.pg g.sl = true := by
      unfold fnum at e1
      split at e1
      · assumption
      · cases e1
    exact ((ffound_iff _ _ _ _).1 hf).2
  unfold holdS
  rw [List.mem_append, List.mem_cons]
  constructor
  · rintro (h1 | h1 | h1)
    · refine .inr ⟨List.mem_of_mem_take h1, ?_⟩
      have := take_lt l g x h1
      rw [ordG_lt] at this
      rw [Bool.eq_false_iff, ne_eq, keyB_eq]; omega
    · exact .inl h1
    · refine .inr ⟨List.mem_of_mem_drop h1, ?_⟩
      have := drop_gt l h g x h1
      rw [ordG_lt] at this
      rw [Bool.eq_false_iff, ne_eq, keyB_eq]; omega
  · rintro (h1 | ⟨h1, h2⟩)
    · exact .inr (.inl h1)
    · by_cases h3 : x ∈ l.take (flo l g)
      · exact .inl h3
      · by_cases h4 : x ∈ l.drop (flo l g + fnum l g)
        · exact .inr (.inr h4)
        · rw [key h1 h3 h4] at h2; cases h2
theorem holdS_len (l : List Gr) (g : Gr) : (holdS l g).length = l.length + 1 - fnum l g := by
  have := flo_num l g
  have h2 : fnum l g ≤ 1 := by unfold fnum; split <;> omega
  simp only [holdS, List.length_append, List.length_take, List.length_cons, List.length_drop]
  omega
theorem modeS_in (l : List Gr) (h : sortedG l) (x : Gr) (hx : x ∈ l) : modeS l x.tx x.pg x.sl = x.md := by
  unfold modeS
  cases hf : l.find? (keyB x.tx x.pg x.sl) with
  | none =>
    rw [List.find?_eq_none] at hf
    exact absurd (keyB_eq.2 ⟨rfl, rfl, rfl⟩) (hf x hx)
  | some y =>
    have h1 := List.find?_some hf
    have h2 := List.mem_of_find?_eq_some hf
    rw [keyB_eq] at h1
    obtain ⟨i, hi, rfl⟩ := List.getElem_of_mem hx
    obtain ⟨j, hj, rfl⟩ := List.getElem_of_mem h2
    show l[j].md = l[i].md
    rcases Nat.lt_trichotomy i j with hlt | heq | hgt
    · have := List.pairwise_iff_getElem.mp h i j hi hj hlt
      rw [ordG_lt] at this; omega
    · subst heq; rfl
    · have := List.pairwise_iff_getElem.mp h j i hj hi hgt
      rw [ordG_lt] at this; omega
theorem modeS_out (l : List Gr) (tx pg sl : Int) (h : ∀ x ∈ l, keyB tx pg sl x = false) : modeS l tx pg sl = 0 := by
  unfold modeS
  have : l.find? (keyB tx pg sl) = none := by rw [List.find?_eq_none]; intro x hx; rw [h x hx]; simp
  rw [this]
theorem modeS_key (l : List Gr) (h : sortedG l) (tx pg sl : Int) (x : Gr) (hx : x ∈ l) (hk : keyB tx pg sl x = true) : modeS l tx pg sl = x.md := by
  obtain ⟨rfl, rfl, rfl⟩ := keyB_eq.1 hk
  exact modeS_in l h x hx
/-- The lists that agree on a key agree on its mode. -/
theorem modeS_same (l m : List Gr) (h : sortedG l) (h' : sortedG m) (tx pg sl : Int) (e : ∀ x, keyB tx pg sl x = true → (x ∈ l ↔ x ∈ m)) : modeS l tx pg sl = modeS m tx pg sl := by
  by_cases hx : ∃ x ∈ l, keyB tx pg sl x = true
  · obtain ⟨x, h1, h2⟩ := hx
    rw [modeS_key l h tx pg sl x h1 h2, modeS_key m h' tx pg sl x ((e x h2).1 h1) h2]
  · have h1 : ∀ x ∈ l, keyB tx pg sl x = false := fun x hm => by simpa using fun hk => hx ⟨x, hm, hk⟩
    rw [modeS_out l tx pg sl h1, modeS_out m]
    intro x hm
    cases hk : keyB tx pg sl x with
    | false => rfl
    | true => have := h1 x ((e x hk).2 hm); rw [hk] at this; cases this
/-- Right tables, but for their size. -/
structure Lk.Good (t : Lk) : Prop where
  srt : sortedG t.held
  okh : ∀ g ∈ t.held, g.okB = true
  nc : ∀ a ∈ t.held, ∀ b ∈ t.held, confB a b = false
  okw : ∀ g ∈ t.wait, g.okB = true
  md : ∀ g ∈ t.wait, modeS t.held g.tx g.pg g.sl < g.md
  dis : t.wait.Pairwise fun a b => a.tx ≠ b.tx
theorem confB_iff (a b : Gr) : confB a b = true ↔ a.tx ≠ b.tx ∧ a.pg = b.pg ∧ a.sl = b.sl ∧ (a.md = 2 ∨ b.md = 2) := by
  simp [confB, sameL, and_assoc]
theorem confB_symm (a b : Gr) : confB a b = confB b a := by
  rw [Bool.eq_iff_iff, confB_iff, confB_iff]; omega
theorem okB_iff (t : Lk) : t.okB = true ↔ t.held.length + t.wait.length ≤ 1024 ∧ t.Good := by
  constructor
  · intro h
    simp only [Lk.okB, Bool.and_eq_true, decide_eq_true_eq] at h
    obtain ⟨⟨h1, h2⟩, h3⟩ := h
    have hs := sorted_of t.held h2
    rw [List.all_eq_true] at h2 h3
    refine ⟨h1, hs, ?_, ?_, ?_, ?_, ?_⟩
    · intro g hg
      obtain ⟨i, hi, rfl⟩ := List.getElem_of_mem hg
      have := h2 i (by rwa [List.mem_range])
      simp only [Lk.chkH, Bool.and_eq_true] at this
      rw [getD_eq t.held i hi] at this
      exact this.1
    · have nb : ∀ i, ∀ h : i + 1 < t.held.length, confB t.held[i] t.held[i + 1] = false := by
        intro i hi
        have := h2 (i + 1) (by rwa [List.mem_range])
        simp only [Lk.chkH, Bool.and_eq_true, Bool.or_eq_true, decide_eq_true_eq, Bool.not_eq_true'] at this
        rw [getD_eq t.held (i + 1) hi, getD_eq t.held (i + 1 - 1) (by omega)] at this
        rcases this.2 with h | h
        · omega
        · exact h.2
      have ij : ∀ i j, ∀ hi : i < t.held.length, ∀ hj : j < t.held.length, i < j → confB t.held[i] t.held[j] = false := by
        intro i j hi hj hij
        rw [Bool.eq_false_iff]
        intro hc
        rw [confB_iff] at hc
        have sl : ∀ a b, ∀ ha : a < t.held.length, ∀ hb : b < t.held.length, a < b → ordG t.held[a] t.held[b] < 0 := fun a b ha hb hab => List.pairwise_iff_getElem.mp hs a b ha hb hab
        rcases hc.2.2.2 with hm | hm
        · have h5 := nb i (by omega)
          rw [Bool.eq_false_iff, ne_eq, confB_iff] at h5
          have h6 := sl i (i + 1) hi (by omega) (by omega)
          rcases Nat.lt_or_ge (i + 1) j with hlt | hge
          · have h7 := sl (i + 1) j (by omega) hj hlt
            rw [ordG_lt] at h6 h7
            omega
          · have e : j = i + 1 := by omega
            subst e
            rw [ordG_lt] at h6
            omega
        · have h5 := nb (j - 1) (by omega)
          have ej : j - 1 + 1 = j := by omega
          simp only [ej] at h5
          rw [Bool.eq_false_iff, ne_eq, confB_iff] at h5
          have h6 := sl (j - 1) j (by omega) hj (by omega)
          rcases Nat.lt_or_ge i (j - 1) with hlt | hge
          · have h7 := sl i (j - 1) hi (by omega) hlt
            rw [ordG_lt] at h6 h7
            omega
          · have e : i = j - 1 := by omega
            subst e
            rw [ordG_lt] at h6
            omega
      intro a ha b hb
      obtain ⟨i, hi, rfl⟩ := List.getElem_of_mem ha
      obtain ⟨j, hj, rfl⟩ := List.getElem_of_mem hb
      rcases Nat.lt_trichotomy i j with hlt | heq | hgt
      · exact ij i j hi hj hlt
      · subst heq; rw [Bool.eq_false_iff, ne_eq, confB_iff]; omega
      · rw [confB_symm]; exact ij j i hj hi hgt
    · intro g hg
      obtain ⟨i, hi, rfl⟩ := List.getElem_of_mem hg
      have := h3 i (by rwa [List.mem_range])
      simp only [Lk.chkW, Bool.and_eq_true] at this
      rw [getD_eq t.wait i hi] at this
      exact this.1.1
    · intro g hg
      obtain ⟨i, hi, rfl⟩ := List.getElem_of_mem hg
      have := h3 i (by rwa [List.mem_range])
      simp only [Lk.chkW, Bool.and_eq_true, decide_eq_true_eq] at this
      rw [getD_eq t.wait i hi] at this
      exact this.1.2
    · rw [List.pairwise_iff_getElem]
      intro i j hi hj hij he
      have := h3 j (by rwa [List.mem_range])
      simp only [Lk.chkW, Bool.and_eq_true, decide_eq_true_eq, Bool.not_eq_true', List.any_eq_false] at this
      rw [getD_eq t.wait j hj] at this
      exact this.2 t.wait[i] (List.mem_take_iff_getElem.2 ⟨i, by omega, rfl⟩) he
  · rintro ⟨h1, h⟩
    simp only [Lk.okB, Bool.and_eq_true, decide_eq_true_eq]
    refine ⟨⟨h1, ?_⟩, ?_⟩
    · rw [List.all_eq_true]
      intro i hi
      rw [List.mem_range] at hi
      simp only [Lk.chkH, Bool.and_eq_true, Bool.or_eq_true, decide_eq_true_eq, Bool.not_eq_true']
      rw [getD_eq t.held i hi, getD_eq t.held (i - 1) (by omega)]
      refine ⟨h.okh _ (List.getElem_mem hi), ?_⟩
      rcases Nat.eq_zero_or_pos i with hz | hz
      · exact .inl hz
      · exact .inr ⟨List.pairwise_iff_getElem.mp h.srt (i - 1) i (by omega) hi (by omega), h.nc _ (List.getElem_mem _) _ (List.getElem_mem _)⟩
    · rw [List.all_eq_true]
      intro i hi
      rw [List.mem_range] at hi
      simp only [Lk.chkW, Bool.and_eq_true, decide_eq_true_eq, Bool.not_eq_true', List.any_eq_false]
      rw [getD_eq t.wait i hi]
      refine ⟨⟨h.okw _ (List.getElem_mem hi), h.md _ (List.getElem_mem hi)⟩, ?_⟩
      intro x hx
      obtain ⟨k, hk, rfl⟩ := List.mem_take_iff_getElem.1 hx
      exact List.pairwise_iff_getElem.mp h.dis k i (by omega) hi (by omega)

/-- A waiting grant is held. -/
def Lk.mv (t : Lk) (i : Nat) : Lk := ⟨holdS t.held (t.wait.getD i Gr0), t.wait.take i ++ t.wait.drop (i + 1)⟩
theorem Lk.mv_len (t : Lk) (i : Nat) (h : i < t.wait.length) : (t.mv i).wait.length = t.wait.length - 1 := by
  simp only [Lk.mv, List.length_append, List.length_take, List.length_drop]; omega
/-- The first that can be held. -/
def Lk.first (t : Lk) : Option Nat := (List.range t.wait.length).find? fun i => !t.blkB i
theorem Lk.first_lt {t : Lk} {i : Nat} (h : t.first = some i) : i < t.wait.length := by
  have := List.mem_of_find?_eq_some h
  rwa [List.mem_range] at this
def Lk.settleN : Nat → Lk → Lk
  | 0, t => t
  | n + 1, t => match t.first with
    | none => t
    | some i => Lk.settleN n (t.mv i)
def Lk.settle (t : Lk) : Lk := Lk.settleN t.wait.length t
theorem Lk.settle_none {t : Lk} (h : t.first = none) : t.settle = t := by
  unfold Lk.settle
  cases t.wait.length with
  | zero => rfl
  | succ n => simp only [Lk.settleN, h]
theorem Lk.settle_some {t : Lk} {i : Nat} (h : t.first = some i) : t.settle = (t.mv i).settle := by
  have hi := Lk.first_lt h
  unfold Lk.settle
  rw [Lk.mv_len t i hi]
  obtain ⟨n, hn⟩ : ∃ n, t.wait.length = n + 1 := ⟨t.wait.length - 1, by omega⟩
  rw [hn]
  simp only [Lk.settleN, h]
  rfl
theorem Lk.first_none {t : Lk} (h : ∀ k, k < t.wait.length → t.blkB k = true) : t.first = none := by
  unfold Lk.first
  rw [List.find?_eq_none]
  intro k hk
  rw [List.mem_range] at hk
  simp [h k hk]
theorem Lk.first_some {t : Lk} {i : Nat} (hi : i < t.wait.length) (hb : t.blkB i = false) (h : ∀ k, k < i → t.blkB k = true) : t.first = some i := by
  unfold Lk.first
  rw [List.find?_eq_some_iff_getElem]
  refine ⟨by simp [hb], i, by simpa using hi, by simp, fun j hj => ?_⟩
  simp [h j hj]
theorem Lk.blkB_iff (t : Lk) (i : Nat) (hi : i < t.wait.length) : t.blkB i = true ↔ (∃ x ∈ t.held, confB x t.wait[i] = true) ∨ ∃ k, ∃ h : k < i, confB t.wait[k] t.wait[i] = true := by
  unfold Lk.blkB
  rw [getD_eq t.wait i hi, Bool.or_eq_true, List.any_eq_true, List.any_eq_true]
  refine or_congr Iff.rfl ⟨?_, ?_⟩
  · rintro ⟨x, hx, hc⟩
    obtain ⟨k, hk, rfl⟩ := List.mem_take_iff_getElem.1 hx
    exact ⟨k, by omega, hc⟩
  · rintro ⟨k, hk, hc⟩
    exact ⟨t.wait[k], List.mem_take_iff_getElem.2 ⟨k, by omega, rfl⟩, hc⟩
theorem okB_md {g : Gr} (h : g.okB = true) : g.md = 1 ∨ g.md = 2 := by
  simp only [Gr.okB, Bool.and_eq_true, Bool.or_eq_true, decide_eq_true_eq] at h; exact h.2
theorem mem_rest {l : List Gr} {i : Nat} {x : Gr} (h : x ∈ l.take i ++ l.drop (i + 1)) : x ∈ l := by
  rcases List.mem_append.1 h with h | h
  · exact List.mem_of_mem_take h
  · exact List.mem_of_mem_drop h
theorem rest_sub (l : List Gr) (i : Nat) : (l.take i ++ l.drop (i + 1)).Sublist l := by
  have := List.eraseIdx_sublist l i
  rwa [List.eraseIdx_eq_take_drop_succ] at this
theorem rest_get {l : List Gr} {i : Nat} (hi : i < l.length) (k : Nat) (hk : k < i) (h : k < (l.take i ++ l.drop (i + 1)).length) : (l.take i ++ l.drop (i + 1))[k] = l[k] := by
  rw [List.getElem_append_left (by rw [List.length_take]; omega), List.getElem_take]
theorem rest_tx {t : Lk} (g : t.Good) {i : Nat} (hi : i < t.wait.length) {x : Gr} (h : x ∈ t.wait.take i ++ t.wait.drop (i + 1)) : x.tx ≠ t.wait[i].tx := by
  rcases List.mem_append.1 h with h | h
  · obtain ⟨k, hk, rfl⟩ := List.mem_take_iff_getElem.1 h
    exact List.pairwise_iff_getElem.mp g.dis k i (by omega) hi (by omega)
  · obtain ⟨k, hk, rfl⟩ := List.mem_drop_iff_getElem.1 h
    exact (List.pairwise_iff_getElem.mp g.dis i (i + 1 + k) hi (by omega) (by omega)).symm
theorem Lk.Good.mv {t : Lk} (g : t.Good) {i : Nat} (hi : i < t.wait.length) (hb : t.blkB i = false) : (t.mv i).Good := by
  have hd := getD_eq t.wait i hi Gr0
  have hno : ∀ x ∈ t.held, confB x t.wait[i] = false := fun x hx => by
    rw [Bool.eq_false_iff]
    intro hc
    rw [(Lk.blkB_iff t i hi).2 (.inl ⟨x, hx, hc⟩)] at hb
    cases hb
  have hsr := holdS_sorted t.held g.srt t.wait[i]
  refine ⟨?_, ?_, ?_, ?_, ?_, ?_⟩
  · simp only [Lk.mv, hd]; exact hsr
  · simp only [Lk.mv, hd]
    intro x hx
    rcases (mem_holdS _ g.srt _ _).1 hx with rfl | h
    · exact g.okw _ (List.getElem_mem hi)
    · exact g.okh x h.1
  · simp only [Lk.mv, hd]
    intro a ha b hb
    rcases (mem_holdS _ g.srt _ _).1 ha with rfl | ha <;> rcases (mem_holdS _ g.srt _ _).1 hb with rfl | hb
    · rw [Bool.eq_false_iff, ne_eq, confB_iff]; omega
    · rw [confB_symm]; exact hno b hb.1
    · exact hno a ha.1
    · exact g.nc a ha.1 b hb.1
  · simp only [Lk.mv]
    exact fun x hx => g.okw x (mem_rest hx)
  · simp only [Lk.mv, hd]
    intro x hx
    have ht := rest_tx g hi hx
    rw [modeS_same (holdS t.held t.wait[i]) t.held hsr g.srt x.tx x.pg x.sl ?_]
    · exact g.md x (mem_rest hx)
    · intro y hy
      rw [mem_holdS _ g.srt]
      rw [keyB_eq] at hy
      constructor
      · rintro (rfl | h)
        · omega
        · exact h.1
      · intro h
        refine .inr ⟨h, ?_⟩
        rw [Bool.eq_false_iff, ne_eq, keyB_eq]; omega
  · exact List.Pairwise.sublist (rest_sub _ _) g.dis
/-- Who is kept waiting before goes on being kept waiting. -/
theorem Lk.Good.still {t : Lk} (g : t.Good) {i : Nat} (hi : i < t.wait.length) (k : Nat) (hk : k < i) (hb : t.blkB k = true) : (t.mv i).blkB k = true := by
  have hd := getD_eq t.wait i hi Gr0
  have hl := Lk.mv_len t i hi
  have hkl : k < (t.mv i).wait.length := by omega
  have eg : ∀ j, ∀ h : j < i, ∀ h2 : j < (t.mv i).wait.length, (t.mv i).wait[j] = t.wait[j] := fun j h h2 => rest_get hi j h h2
  rw [Lk.blkB_iff _ k hkl, eg k hk hkl]
  rcases (Lk.blkB_iff t k (by omega)).1 hb with ⟨x, hx, hc⟩ | ⟨j, hj, hc⟩
  · left
    simp only [Lk.mv, hd]
    cases hkey : keyB t.wait[i].tx t.wait[i].pg t.wait[i].sl x with
    | false => exact ⟨x, (mem_holdS _ g.srt _ _).2 (.inr ⟨hx, hkey⟩), hc⟩
    | true =>
      refine ⟨t.wait[i], (mem_holdS _ g.srt _ _).2 (.inl rfl), ?_⟩
      have h1 := g.md _ (List.getElem_mem hi)
      rw [modeS_key t.held g.srt _ _ _ x hx hkey] at h1
      have h2 := okB_md (g.okw _ (List.getElem_mem hi))
      have h3 := okB_md (g.okh _ hx)
      rw [keyB_eq] at hkey
      rw [confB_iff] at hc ⊢
      omega
  · right
    exact ⟨j, hj, by rw [eg j (by omega) (by omega)]; exact hc⟩
theorem Lk.Good.settleN : ∀ (n : Nat) {t : Lk}, t.Good → (Lk.settleN n t).Good
  | 0, t, g => g
  | n + 1, t, g => by
    simp only [Lk.settleN]
    cases h : t.first with
    | none => exact g
    | some i =>
      have hb := List.find?_some h
      exact Lk.Good.settleN n (g.mv (Lk.first_lt h) (by simpa using hb))
theorem Lk.Good.settle {t : Lk} (g : t.Good) : t.settle.Good := g.settleN _
theorem Lk.mv_sum (t : Lk) (i : Nat) (h : i < t.wait.length) : (t.mv i).held.length + (t.mv i).wait.length ≤ t.held.length + t.wait.length := by
  have := holdS_len t.held (t.wait.getD i Gr0)
  have := Lk.mv_len t i h
  have : (t.mv i).held.length ≤ t.held.length + 1 := by simp only [Lk.mv]; omega
  omega
theorem Lk.settleN_sum : ∀ (n : Nat) (t : Lk), (Lk.settleN n t).held.length + (Lk.settleN n t).wait.length ≤ t.held.length + t.wait.length
  | 0, t => Nat.le_refl _
  | n + 1, t => by
    simp only [Lk.settleN]
    cases h : t.first with
    | none => exact Nat.le_refl _
    | some i => exact Nat.le_trans (Lk.settleN_sum n (t.mv i)) (Lk.mv_sum t i (Lk.first_lt h))
theorem Lk.settle_sum (t : Lk) : t.settle.held.length + t.settle.wait.length ≤ t.held.length + t.wait.length := Lk.settleN_sum _ t
end Go.Proofs.Ytjiaadkncpajnaa

namespace Go.Proofs.Ytjiaadkncpajnaa
open Go.V Go
set_option maxRecDepth 100000
set_option linter.unusedSimpArgs false

/-- The blocks of a table that has been copied. -/
def ownHp (t : Lk) : Heap := [⟨26, true, [.pv (.sl (fz encG t.held)), .pv (.sl (fz encG t.wait))]⟩, ⟨26, true, [.own 2 4 0 t.held.length, .own 3 4 0 t.wait.length]⟩, ⟨33, true, cells encG t.held⟩, ⟨33, true, cells encG t.wait⟩]
theorem own_v (t : Lk) (hs : t.sm) : VCalls Try.prog 34 [t.d] [] fun r h' => r = .agg [.own 2 4 0 t.held.length, .own 3 4 0 t.wait.length] ∧ h' = ownHp t := by
  obtain ⟨hs1, hs2⟩ := hs
  refine vcalls_keep (fn := Try.f34) Try.func34 rfl (by kernel_rfl) (by simp [Try.f34]) ?_
  simp (config := { maxSteps := 2000000 }) (implicitDefEqProofs := false) (disch := first | omega | assumption | (simp only []; done) | fail) only [vop_alloc, vcallee_alloc, vop_box, vcallee_box, strip_agg, optV_none, ev_tmp, put_some, at_mk, fits_some, ↓look_cons, ↓vlook_t, guard_none, ↓vrun_nil, ↓code_region, ↓code_draw, ↓code_seq, ↓onNormal_normal, box_eq, alloc_eq, val1_some, allOne_nil, allOne_cons, one_pv, enum_nil, enum_cons, evG_eq, ↓vrun_cons, ↓run1_some, ↓runG_true, ↓run2_none, ↓run3_some, at_hp, dcells, List.toList_toArray, List.length_cons, List.length_nil, List.cons_append, List.nil_append, ↓reduceIte, Nat.reduceLT, Int.reduceLT, Nat.zero_add, true_and, and_self, Bool.true_and, Bool.and_self, beq_self_eq_true, Try.vzero26, dec_t, Try.f34, Lk.d]
  refine vspine [0, 1, 3, 4] [⟨[], [], 2, [0, 3, 4], []⟩, ⟨[], [], 5, [0, 1, 3], [6]⟩, ⟨[], [], 7, [], []⟩] (by kernel_rfl) (by kernel_rfl) ?_
  simp (config := { maxSteps := 2000000 }) (implicitDefEqProofs := false) (disch := first | omega | assumption | (simp only []; done) | fail) only [vop_load, vcallee_load, vop_fieldAddr, vcallee_fieldAddr, vcallee_value, vcal_fn, strip_pv, strip_ptr, strip_fn, optV_none, ev_tmp, ev_func, put_some, at_mk, fits_some, ↓look_cons, ↓vlook_t, ↓vlook_f, guard_none, ↓vrun_nil, load_ptr, vld_one, blk_zero, faddr_ptr, vfap_some, evG_eq, ↓vrun_cons, ↓run1_some, ↓runG_true, ↓run2_none, ↓run2_some, ↓run3_some, at_hp, List.map_nil, List.getElem?_cons_zero, List.getElem?_cons_succ, List.map_cons, List.map_nil, List.nil_append, List.append_nil, Option.map_some, ↓reduceIte, reduceCtorEq, Nat.reduceLT, Nat.reduceBEq, Int.reduceLT, Int.reduceBEq, Nat.zero_add, Nat.add_zero, true_and, Bool.true_and, beq_self_eq_true, ↓vsp_cons, vspC_true, vspR_eq, pick_nil, pick_cons, pickO_some, creas_nil, Try.vt24, Try.vfield26x0, Try.vfield26x1, dec_t]
  refine vc_new0 (cloneG_v t.held (by omega)) rfl (cells_nums _ _ _) ?_
  simp (config := { maxSteps := 2000000 }) (implicitDefEqProofs := false) (disch := first | omega | assumption | (simp only []; done) | fail) only [foot_fieldAddr, foot_load, vcallee_value, vcal_fn, ptrNo_ptr, strip_pv, strip_ptr, strip_fn, optV_none, ev_tmp, ev_func, put_some, at_mk, fits_some, ↓look_cons, ↓vlook_t, ↓vlook_f, guard_none, ↓vrun_nil, evG_eq, ↓vrun_cons, ↓run1_some, ↓runG_true, ↓run2_some, ↓runK_eq, at_hp, List.map_nil, List.getElem?_cons_zero, List.getElem?_cons_succ, List.length_cons, List.length_nil, List.map_cons, List.map_nil, List.cons_append, List.nil_append, List.append_nil, Nat.reduceAdd, Nat.reduceLT, Nat.reduceBEq, Int.reduceLT, Int.reduceAdd, Int.reduceBEq, Nat.zero_add, true_and, and_self, Bool.true_and, Bool.and_self, beq_self_eq_true, ↓vsp_cons, ↓vspK_eq, vspC_true, vspR_eq, pick_nil, pick_cons, pickO_some, creas_nil, agree_nil, agree_cons, agree1_some, sameAt_nil, sameAt_cons, dec_t]
  refine vc_new0 (cloneG_v t.wait (by omega)) rfl (cells_nums _ _ _) ?_
  simp (config := { maxSteps := 2000000 }) (implicitDefEqProofs := false) (disch := first | omega | assumption | (simp only []; done) | fail) only [vop_build, vcallee_build, vop_store, vcallee_store, foot_fieldAddr, foot_load, ptrNo_ptr, strip_ptr, strip_own, strip_agg, optV_none, ev_tmp, put_some, put_none, at_mk, fits_some, fits_none, ↓look_cons, ↓vlook_t, ↓vlook_f, guard_none, ↓vrun_nil, ↓code_ret, ↓onNormal_normal, res_one, vres_cell, load_ptr, vld_agg, store_ptr, vst_agg, blk_zero, blk_succ, set_zero, set_succ, allOne_nil, allOne_cons, one_pv, one_own, parts_nil, parts_cons, evG_eq, ↓vrun_cons, ↓run1_some, ↓runG_true, ↓run2_none, ↓run3_some, ↓runK_eq, ↓keep_ret, vfinK_some, at_hp, dcells, vbuild, vfill, V.splice, List.getElem?_cons_zero, List.getElem?_cons_succ, List.length_cons, List.length_nil, List.cons_append, List.nil_append, List.append_nil, List.take_succ_cons, List.take_zero, List.take_nil, List.drop_succ_cons, List.drop_zero, List.drop_nil, Option.map_some, ↓reduceIte, Nat.reduceAdd, Nat.reduceLT, Nat.reduceLeDiff, Nat.reduceBEq, Int.reduceLT, Int.reduceAdd, Int.reduceBEq, Nat.zero_add, true_and, and_self, Bool.true_and, Bool.and_self, beq_self_eq_true, Nat.le_refl, ↓vsp_nil, ↓vsp_cons, ↓vspK_eq, vspC_true, vspR_eq, pick_nil, pick_cons, pickO_some, creas_nil, agree_nil, agree_cons, agree1_some, sameAt_nil, sameAt_cons, Try.vt26, Try.vplaces26, Try.vzero26, dec_t]
  rfl
end Go.Proofs.Ytjiaadkncpajnaa

namespace Go.Proofs.Ytjiaadkncpajnaa
open Go.V Go
set_option maxRecDepth 100000
set_option linter.unusedSimpArgs false

theorem ins_endG (l : List Gr) (x : Gr) : cells encG l ++ cells encG [x] = cells encG (l.take l.length ++ x :: l.drop l.length) := by
  rw [List.take_length, List.drop_length, ← cells_app]
theorem ins_upG (l : List Gr) (i : Nat) (h : i < l.length) : splice (cells encG l) ((i + 1) * 4) (((cells encG l).drop (i * 4)).take ((l.length - i) * 4)) = cells encG (l.take (i + 1) ++ l.drop i) := by
  have e1 : (cells encG l).drop (i * 4) = cells encG (l.drop i) := by have := cells_drop encG l i; simpa [encG] using this
  have e2 : (cells encG (l.drop i)).take ((l.length - i) * 4) = cells encG (l.drop i) := cells_all encG _ _ (by rw [List.length_drop]; show _ = (l.length - i) * 4; omega)
  have e3 := splice_cells encG l (l.drop i) (i + 1)
  rw [List.drop_of_length_le (i := i + 1 + (l.drop i).length) (by rw [List.length_drop]; omega), List.append_nil] at e3
  rw [e1, e2, ← e3]
  rfl
theorem ins_inG (l : List Gr) (x : Gr) (i : Nat) (h : i < l.length) : splice (cells encG (l.take (i + 1) ++ l.drop i)) (i * 4) (cells encG [x]) = cells encG (l.take i ++ x :: l.drop i) := by
  have e3 := splice_cells encG (l.take (i + 1) ++ l.drop i) [x] i
  have e1 : (l.take (i + 1) ++ l.drop i).take i = l.take i := by rw [List.take_append_of_le_length (by rw [List.length_take]; omega), List.take_take, Nat.min_eq_left (by omega)]
  have e2 : (l.take (i + 1) ++ l.drop i).drop (i + 1) = l.drop i := by rw [List.drop_append_of_le_length (by rw [List.length_take]; omega), List.drop_of_length_le (by rw [List.length_take]; omega), List.nil_append]
  rw [e1, show i + [x].length = i + 1 from rfl, e2, List.append_assoc] at e3
  exact e3
theorem ins_g1G (l : List Gr) (i m : Nat) : (cells encG l).take (i * 4) ++ mk [.pv (.lit (.int .i64 0)), .pv (.lit (.int .i64 0)), .pv (.lit (.int .i64 0)), .pv (.lit (.int .i64 0))] m = cells encG (l.take i ++ List.replicate m Gr0) := by
  have e1 := cells_take encG l i
  have e2 : mk [.pv (.lit (.int .i64 0)), .pv (.lit (.int .i64 0)), .pv (.lit (.int .i64 0)), .pv (.lit (.int .i64 0))] m = cells encG (List.replicate m Gr0) := mk_cells encG Gr0 m
  rw [e2, cells_app, ← e1]
  rfl
theorem ins_g1bG (l : List Gr) (i m : Nat) : (cells encG l).take (i * 4) ++ cells encG (List.replicate m Gr0) = cells encG (l.take i ++ List.replicate m Gr0) := by
  have e1 := ins_g1G l i m
  have e2 : mk [.pv (.lit (.int .i64 0)), .pv (.lit (.int .i64 0)), .pv (.lit (.int .i64 0)), .pv (.lit (.int .i64 0))] m = cells encG (List.replicate m Gr0) := mk_cells encG Gr0 m
  rwa [e2] at e1
theorem ins_g2G (l : List Gr) (x : Gr) (i : Nat) (h : i < l.length) : splice (cells encG (l.take i ++ List.replicate (l.length + 1 - i) Gr0)) (i * 4) (cells encG [x]) = cells encG (l.take i ++ x :: List.replicate (l.length - i) Gr0) := by
  have e3 := splice_cells encG (l.take i ++ List.replicate (l.length + 1 - i) Gr0) [x] i
  have hlt : (l.take i).length = i := by rw [List.length_take]; omega
  have e1 : (l.take i ++ List.replicate (l.length + 1 - i) Gr0).take i = l.take i := by rw [List.take_append_of_le_length (by omega), List.take_take, Nat.min_self]
  have e2 : (l.take i ++ List.replicate (l.length + 1 - i) Gr0).drop (i + 1) = List.replicate (l.length - i) Gr0 := by
    rw [List.drop_append, hlt, List.drop_of_length_le (by omega), List.nil_append, List.drop_replicate]
    congr 1; omega
  rw [e1, show i + [x].length = i + 1 from rfl, e2, List.append_assoc] at e3
  exact e3
theorem ins_g3G (l : List Gr) (x : Gr) (i : Nat) (h : i < l.length) : splice (cells encG (l.take i ++ x :: List.replicate (l.length - i) Gr0)) ((i + 1) * 4) (((cells encG l).drop (i * 4)).take ((l.length - i) * 4)) = cells encG (l.take i ++ x :: l.drop i) := by
  have e1 : (cells encG l).drop (i * 4) = cells encG (l.drop i) := by have := cells_drop encG l i; simpa [encG] using this
  have e2 : (cells encG (l.drop i)).take ((l.length - i) * 4) = cells encG (l.drop i) := cells_all encG _ _ (by rw [List.length_drop]; show _ = (l.length - i) * 4; omega)
  have e3 := splice_cells encG (l.take i ++ x :: List.replicate (l.length - i) Gr0) (l.drop i) (i + 1)
  have hlt : (l.take i ++ [x]).length = i + 1 := by rw [List.length_append, List.length_take, List.length_singleton]; omega
  have ea : l.take i ++ x :: List.replicate (l.length - i) Gr0 = (l.take i ++ [x]) ++ List.replicate (l.length - i) Gr0 := by simp
  have e4 : (l.take i ++ x :: List.replicate (l.length - i) Gr0).take (i + 1) = l.take i ++ [x] := by rw [ea, List.take_append_of_le_length (by omega), List.take_of_length_le (by omega)]
  rw [e4, List.drop_of_length_le (i := i + 1 + (l.drop i).length) (by rw [ea, List.length_append, hlt, List.length_replicate, List.length_drop]; omega), List.append_nil] at e3
  have e5 : l.take i ++ x :: l.drop i = l.take i ++ [x] ++ l.drop i := by simp
  rw [e1, e2, e5, ← e3]
  rfl
theorem one_lenG (x : Gr) : (cells encG [x]).length = 4 := by rw [cells_len]; rfl
set_option maxHeartbeats 2000000 in
theorem insertG_v (l : List Gr) (x : Gr) (i : Nat) (hi : i ≤ l.length) (hl : l.length ≤ 1000000) :
    VCalls Try.prog 35 [.own 0 4 0 l.length, .int .i64 i, .own 1 4 0 1] [⟨33, true, cells encG l⟩, ⟨33, true, cells encG [x]⟩]
      (NewSl noK [⟨33, true, cells encG l⟩, ⟨33, true, cells encG [x]⟩] 4 (l.length + 1) 33 (cells encG (l.take i ++ x :: l.drop i))) := by
  refine VCalls.newSl ?_
  have hcl : (cells encG l).length = l.length * 4 := cells_len encG l
  have hc1 := one_lenG x
  by_cases he : i = l.length
  · subst he
    refine vcalls_keep (fn := Try.f35) Try.func35 rfl (by kernel_rfl) (by simp [Try.f35]) ?_
    have hb : (l.length + 1) * 32 ≤ 140737488355328 := by omega
    have hta : (cells encG l).take (l.length * 4) = cells encG l := cells_all encG l _ (by show _ = l.length * 4; omega)
    have ht1 : (cells encG [x]).take 4 = cells encG [x] := cells_all encG [x] _ rfl
    simp (config := { maxSteps := 2000000 }) (implicitDefEqProofs := false) (disch := first | omega | assumption | (simp only []; done) | fail) only [vop_move, vcallee_move, vop_assign, vcallee_assign, vop_binOp, vcallee_binOp, vop_slice, vcallee_slice, vop_builtin, vcallee_builtin, bin2_tmp, bin2_int, strip_pv, strip_own, optV_none, ev_tmp, ev_const, ofConst_int, ofConst_slice, put_some, at_mk, fits_some, ↓look_cons, ↓vlook_t, ↓vlook_f, guard_none, ↓vrun_nil, ↓code_skip, ↓code_region, ↓code_seq, ↓code_ret, ↓onNormal_normal, ↓onNormal_ret, res_one, vres_tmp, blk_zero, blk_succ, bin_int, int_eql, vlk_sl, len_own, bi_len, bi_append, ap2_own, vslo_end, slice_own_lo, enum_nil, enum_cons, evG_eq, ↓vrun_cons, ↓run1_some, ↓runG_true, ↓run2_none, ↓run3_some, ↓code_cond, ↓vtest_bool, ↓vbr_true, ↓vbr_false, ↓keep_ret, vfinK_some, at_hp, slice_own, List.map_nil, vsrc, vbase, vappend, V.kill, List.toList_toArray, List.getElem?_cons_zero, List.length_cons, List.length_nil, List.map_cons, List.map_nil, List.cons_append, List.nil_append, List.drop_zero, List.set_cons_zero, Option.map_some, Option.map_none, ↓reduceIte, Nat.reduceAdd, Nat.reduceLT, Nat.reduceBEq, Int.reduceLT, Int.reduceAdd, Int.reduceBEq, Int.toNat_natCast, Nat.zero_add, Nat.one_mul, true_and, and_self, Bool.true_and, Bool.and_self, beq_self_eq_true, Nat.le_refl, Try.velem24, Try.notInt24, Try.vkind24, Try.vzero33, Try.bytes33, dec_t, int_beq_f, Try.f35, hcl, hc1, hta, ht1, hb]
    exact ⟨by simp, .inr ⟨_, .inl rfl, by simp, by rw [← ins_endG]; rfl, cells_nums _ _ _⟩⟩
  · have hlt : i < l.length := by omega
    refine VCalls.room (by omega) fun cap hcap => ?_
    by_cases hr : l.length + 1 ≤ cap
    · have hr1 : ¬ (cap : Int) < (l.length : Int) + 1 := by omega
      have hi1 : i + 1 ≤ l.length + 1 := by omega
      have hic : i + 1 ≤ cap := by omega
      have hne : ¬ (i : Int) = l.length := by omega
      have ei : ((i : Int) + 1).toNat = i + 1 := by omega
      have el : ((l.length : Int) + 1).toNat = l.length + 1 := by omega
      refine vcalls_keep (fn := Try.f35) Try.func35 rfl (by kernel_rfl) (by simp [Try.f35]) ?_
      simp (config := { maxSteps := 2000000 }) (implicitDefEqProofs := false) (disch := first | omega | assumption | (simp only []; done) | fail) only [vop_move, vcallee_move, vop_assign, vcallee_assign, vop_binOp, vcallee_binOp, vop_slice, vcallee_slice, vop_builtin, vcallee_builtin, vcallee_value, vcal_fn, bin2_tmp, bin2_int, strip_pv, strip_own, strip_fn, optV_none, ev_tmp, ev_const, ev_func, ofConst_int, ofConst_slice, put_some, at_mk, fits_some, ↓look_cons, ↓vlook_t, ↓vlook_f, guard_none, ↓vrun_nil, ↓code_skip, ↓code_region, ↓code_seq, ↓onNormal_normal, strip_ownc, bin_int, int_add, int_eql, int_gtr, vlk_sl, len_own, bi_len, bi_cap, cap_ownc, vck_sl, len_ownc, slice_ownc, slice_ownc_hi, slice_ownc_lo, vslc0_some, vslc_some, enum_nil, enum_cons, evG_eq, ↓vrun_cons, ↓run1_some, ↓runG_true, ↓run2_none, ↓run2_some, ↓run3_some, ↓code_cond, ↓vtest_bool, ↓vbr_false, at_hp, List.map_nil, List.toList_toArray, List.length_cons, List.length_nil, List.map_cons, List.map_nil, List.nil_append, List.append_nil, Option.map_some, Option.map_none, Nat.reduceAdd, Nat.reduceLT, Nat.reduceBEq, Int.reduceLT, Int.reduceAdd, Int.reduceBEq, Int.toNat_natCast, Nat.zero_add, decide_false, true_and, Bool.true_and, beq_self_eq_true, Try.velem24, Try.vkind24, wrap_i64_in, dec_t, int_beq_f, Try.f35, hr1, Int.natCast_one, ei, el]
      refine (vcalls_apart (k := 1) (k2 := 0) (fn := Try.f60) (tS := 24) (tR := 4) (e := 33) (n := 4) Try.func60 (by kernel_rfl) rfl (by kernel_rfl) (by kernel_rfl) (by kernel_rfl) rfl rfl rfl rfl (by decide) (by omega) (by show 0 < (cells encG l).length; omega)).mono ?_
      rintro r h' ⟨rfl, rfl⟩
      simp (config := { maxSteps := 2000000 }) (implicitDefEqProofs := false) (disch := first | omega | assumption | (simp only []; done) | fail) only [vop_unOp, vcallee_unOp, strip_pv, optV_none, ev_tmp, put_some, at_mk, fits_some, ↓look_cons, ↓vlook_t, guard_none, ↓vrun_nil, ↓code_draw, ↓code_seq, ↓onNormal_normal, un_not, evG_eq, ↓vrun_cons, ↓run1_some, ↓runG_true, ↓run2_none, ↓run3_some, ↓runK_eq, ↓code_cond, ↓vtest_bool, ↓vbr_true, at_hp, Option.map_some, Nat.reduceLT, Int.reduceLT, true_and, Bool.not_false, Bool.true_and, beq_self_eq_true, dec_t]
      refine vspine [0, 1, 2, 3, 4, 5, 6, 7] [⟨[], [], 8, [0, 1, 2, 3, 5, 6], []⟩] (by kernel_rfl) (by kernel_rfl) ?_
      have hmin : min (l.length + 1 - i) (l.length + 1 - (i + 1)) = l.length - i := by omega
      have hmin2 : min 1 (l.length + 1 - i) = 1 := by omega
      have hof : (i + 1) * 4 ≤ l.length * 4 := by omega
      have hle : (l.length - i) * 4 ≤ l.length * 4 - i * 4 := by omega
      have hup := ins_upG l i hlt
      have hin := ins_inG l x i hlt
      have hl2 : (cells encG (l.take (i + 1) ++ l.drop i)).length = (l.length + 1) * 4 := by rw [cells_len, List.length_append, List.length_take, List.length_drop]; show _ * 4 = _; omega
      have hof2 : i * 4 ≤ (l.length + 1) * 4 := by omega
      have ht1 : (cells encG [x]).take 4 = cells encG [x] := cells_all encG [x] _ rfl
      simp (config := { maxSteps := 2000000 }) (implicitDefEqProofs := false) (disch := first | omega | assumption | (simp only []; done) | fail) only [vop_move, vcallee_move, foot_move, vop_assign, vcallee_assign, vop_binOp, vcallee_binOp, foot_binOp, vop_slice, vcallee_slice, vop_builtin, vcallee_builtin, bin2_tmp, strip_pv, strip_own, optV_none, ev_tmp, put_some, at_mk, fits_some, ↓look_cons, ↓vlook_t, ↓vlook_f, guard_none, ↓vrun_nil, ↓code_region, ↓code_seq, ↓code_ret, ↓onNormal_normal, ↓onNormal_ret, strip_ownc, res_one, vres_tmp, blk_zero, blk_succ, set_zero, bin_int, int_add, cp2_co, cp2_cc, slice_ownc, slice_ownc_lo, vslc_some, bi_copy, evG_eq, ↓vrun_cons, ↓run1_some, ↓runG_true, ↓run2_none, ↓run3_some, ↓keep_ret, vfinK_some, at_hp, List.map_nil, vsrc, vcopyC, srcL, dstC, List.getElem?_cons_zero, List.getElem?_cons_succ, List.map_cons, List.map_nil, List.nil_append, List.drop_zero, Option.map_some, Option.map_none, ↓reduceIte, Nat.reduceLT, Nat.reduceBEq, Int.reduceLT, Int.reduceBEq, Int.toNat_natCast, Nat.zero_add, Nat.one_mul, true_and, and_self, Bool.true_and, Bool.and_self, beq_self_eq_true, Nat.le_refl, ↓vsp_nil, ↓vsp_cons, ↓vspK_eq, vspC_true, vspR_eq, pick_nil, pick_cons, pickO_some, creas_nil, agree_nil, agree_cons, agree1_some, sameAt_nil, Try.velem24, wrap_i64_in, dec_t, hcl, hc1, Int.natCast_one, ei, hmin, hmin2, hof, hle, List.length_drop, hup, hin, hl2, hof2, ht1]
      exact ⟨by simp, .inr ⟨0, .inr ⟨cap, by omega, rfl⟩, by simp, rfl, cells_nums _ _ _⟩⟩
    · have hr1 : (cap : Int) < (l.length : Int) + 1 := by omega
      have hne : ¬ (i : Int) = l.length := by omega
      have ei : ((i : Int) + 1).toNat = i + 1 := by omega
      have eL : ((l.length : Int) + 1 - i).toNat = l.length + 1 - i := by omega
      have eS : i + (l.length + 1 - i) = l.length + 1 := by omega
      have hb : (l.length + 1) * 32 ≤ 140737488355328 := by omega
      have hcz : cap < l.length + 1 := by omega
      have hl0 : (0 : Int) < (l.length : Int) + 1 - i := by omega
      have hlz : (l.length : Int) + 1 - i ≤ 1000000000 := by omega
      have hoi : i * 4 ≤ l.length * 4 := by omega
      have hic : i ≤ cap := by omega
      have hg1 := ins_g1G l i (l.length + 1 - i)
      have hg1b := ins_g1bG l i (l.length + 1 - i)
      have hg2 := ins_g2G l x i hlt
      have hg3 := ins_g3G l x i hlt
      have hmin : min 1 (l.length + 1 - i) = 1 := by omega
      have hmin2 : min (l.length - i) (l.length + 1 - (i + 1)) = l.length - i := by omega
      have hl1 : (cells encG (l.take i ++ List.replicate (l.length + 1 - i) Gr0)).length = (l.length + 1) * 4 := by rw [cells_len, List.length_append, List.length_take, List.length_replicate]; show _ * 4 = _; omega
      have hl2 : (cells encG (l.take i ++ x :: List.replicate (l.length - i) Gr0)).length = (l.length + 1) * 4 := by rw [cells_len, List.length_append, List.length_take, List.length_cons, List.length_replicate]; show _ * 4 = _; omega
      have ht1 : (cells encG [x]).take 4 = cells encG [x] := cells_all encG [x] _ rfl
      have hf1 : i * 4 + (l.length + 1 - i) * 4 ≤ (l.length + 1) * 4 := by omega
      have hf2 : (i + 1) * 4 ≤ (l.length + 1) * 4 := by omega
      have hle : (l.length - i) * 4 ≤ l.length * 4 - i * 4 := by omega
      refine vcalls_keep (fn := Try.f35) Try.func35 rfl (by kernel_rfl) (by simp [Try.f35]) ?_
      simp (config := { maxSteps := 2000000 }) (implicitDefEqProofs := false) (disch := first | omega | assumption | (simp only []; done) | fail) only [vop_move, vcallee_move, vop_assign, vcallee_assign, vop_binOp, vcallee_binOp, vop_slice, vcallee_slice, vop_builtin, vcallee_builtin, bin2_tmp, bin2_int, strip_pv, strip_own, optV_none, ev_tmp, ev_const, ofConst_int, ofConst_slice, put_some, at_mk, fits_some, ↓look_cons, ↓vlook_t, ↓vlook_f, guard_none, ↓vrun_nil, ↓code_skip, ↓code_region, ↓code_draw, ↓code_seq, ↓onNormal_normal, strip_ownc, blk_zero, blk_succ, set_zero, set_succ, allOne_nil, allOne_cons, one_pv, bin_int, int_add, int_sub, int_eql, int_gtr, vlk_sl, len_own, bi_len, bi_append, ap2_cz, vapz1_some, bi_cap, cap_ownc, vck_sl, cp2_oo, len_ownc, slice_ownc, slice_own_lo, slice_ownc_hi, slice_ownc_lo, vslo_some, vslc0_some, vslc_some, bi_copy, enum_nil, enum_cons, evG_eq, ↓vrun_cons, ↓run1_some, ↓runG_true, ↓run2_none, ↓run3_some, ↓code_cond, ↓vtest_bool, ↓vbr_true, ↓vbr_false, at_hp, slice_own, List.map_nil, vsrc, vcopy, vapz2, List.toList_toArray, List.getElem?_cons_zero, List.length_cons, List.length_nil, List.map_cons, List.map_nil, List.cons_append, List.nil_append, List.drop_zero, Option.map_some, Option.map_none, ↓reduceIte, Nat.reduceAdd, Nat.reduceLT, Nat.reduceBEq, Int.reduceLT, Int.reduceAdd, Int.reduceBEq, Int.toNat_natCast, Nat.zero_add, Nat.one_mul, true_and, and_self, Bool.true_and, Bool.and_self, beq_self_eq_true, Nat.le_refl, Try.vkind3, Try.velem24, Try.vkind24, Try.vzero33, Try.bytes33, wrap_i64_in, dec_t, int_beq_f, Try.f35, hcl, hc1, hr1, Int.natCast_one, eL, eS, hb, hcz, hl0, hlz, hoi, hg1, hg2, hmin, hl1, ht1, hf1]
      refine vspine [0, 1, 2, 3, 4, 5, 6, 7] [⟨[], [], 8, [0, 1, 2, 3, 5, 6], []⟩] (by kernel_rfl) (by kernel_rfl) ?_
      simp (config := { maxSteps := 2000000 }) (implicitDefEqProofs := false) (disch := first | omega | assumption | (simp only []; done) | fail) only [vop_move, vcallee_move, foot_move, vop_assign, vcallee_assign, vop_binOp, vcallee_binOp, foot_binOp, vop_slice, vcallee_slice, vop_builtin, vcallee_builtin, bin2_tmp, strip_pv, strip_own, optV_none, ev_tmp, put_some, at_mk, fits_some, ↓look_cons, ↓vlook_t, ↓vlook_f, guard_none, ↓vrun_nil, ↓code_region, ↓code_seq, ↓code_ret, ↓onNormal_normal, ↓onNormal_ret, strip_ownc, res_one, vres_tmp, blk_zero, blk_succ, set_zero, set_succ, bin_int, int_add, cp2_oc, slice_ownc, slice_own_lo, slice_ownc_lo, vslo_some, vslc_some, bi_copy, evG_eq, ↓vrun_cons, ↓run1_some, ↓runG_true, ↓run2_none, ↓run3_some, ↓keep_ret, vfinK_some, at_hp, slice_own, List.map_nil, vcopyC, srcL, dstC, List.getElem?_cons_zero, List.getElem?_cons_succ, List.map_cons, List.map_nil, List.nil_append, Option.map_some, Option.map_none, ↓reduceIte, Nat.reduceLT, Nat.reduceBEq, Int.reduceLT, Int.reduceBEq, Int.toNat_natCast, Nat.zero_add, true_and, and_self, Bool.true_and, Bool.and_self, beq_self_eq_true, ↓vsp_nil, ↓vsp_cons, ↓vspK_eq, vspC_true, vspR_eq, pick_nil, pick_cons, pickO_some, creas_nil, agree_nil, agree_cons, agree1_some, sameAt_nil, Try.velem24, wrap_i64_in, dec_t, hcl, ei, hg3, hmin2, hl2, hf2, hle, List.length_drop]
      exact ⟨by simp, .inr ⟨2, .inl rfl, by simp, rfl, cells_nums _ _ _⟩⟩
end Go.Proofs.Ytjiaadkncpajnaa
